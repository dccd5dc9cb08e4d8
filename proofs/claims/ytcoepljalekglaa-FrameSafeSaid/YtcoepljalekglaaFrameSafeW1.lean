/- The walk of FrameSafe and of what it calls, part 1: printed by a program of this work. -/
import Derived.Test.YtcoepljalekglaaG2T
import Derived.Test.YtcoepljalekglaaProg
set_option linter.unusedVariables false
set_option linter.unusedSimpArgs false
namespace Go.Proofs.Ytcoepljalekglaa.FrameSafe.W
open Go.Proofs.Ytcoepljalekglaa.G2 Go.Proofs
attribute [local irreducible] WE WL LP WD Does Tells
theorem mo : Try.prog.follows .mixedOrders = true := by kernel_rfl
structure GInstr where
  Op : Int
  A : Int
  B : Int
instance : Inhabited GInstr := ⟨⟨default, default, default⟩⟩
def cGInstr (x : GInstr)  : List Value := [.int .i64 x.Op, .int .i64 x.A, .int .i64 x.B]
def rGInstr : Rep GInstr := ⟨3, fun _ cs x => cs = cGInstr x , fun _ e => e, fun e => by rw [e]; rfl, fun e => by rw [e]; rfl⟩
structure GFunc where
  Arity : Int
  Locals : Int
  Slots : Int
  Code : List GInstr
instance : Inhabited GFunc := ⟨⟨default, default, default, default⟩⟩
def cGFunc (x : GFunc) (a3 : Option Addr) (c3 : Nat) : List Value := [.int .i64 x.Arity, .int .i64 x.Locals, .int .i64 x.Slots, .slice a3 x.Code.length c3]
def rGFunc : Rep GFunc := ⟨4, fun h cs x => ∃ a3 c3, cs = cGFunc x a3 c3 ∧ Sl rGInstr 24 h a3 c3 x.Code, fun le ⟨a3, c3, e, f3⟩ => ⟨a3, c3, e, f3.up le⟩, fun ⟨a3, c3, e, f3⟩ => by rw [e]; rfl, fun ⟨a3, c3, e, f3⟩ => by rw [e]; rfl⟩
structure GValue where
  Re : Int
  Im : Int
instance : Inhabited GValue := ⟨⟨default, default⟩⟩
def cGValue (x : GValue)  : List Value := [.int .i64 x.Re, .int .i64 x.Im]
def rGValue : Rep GValue := ⟨2, fun _ cs x => cs = cGValue x , fun _ e => e, fun e => by rw [e]; rfl, fun e => by rw [e]; rfl⟩
structure GOut where
  Trap : Int
  V : GValue
instance : Inhabited GOut := ⟨⟨default, default⟩⟩
def cGOut (x : GOut)  : List Value := [.int .i64 x.Trap, .int .i64 x.V.Re, .int .i64 x.V.Im]
def rGOut : Rep GOut := ⟨3, fun _ cs x => cs = cGOut x , fun _ e => e, fun e => by rw [e]; rfl, fun e => by rw [e]; rfl⟩
structure GRef where
  At : Int
  Gen : Int
instance : Inhabited GRef := ⟨⟨default, default⟩⟩
def cGRef (x : GRef)  : List Value := [.int .i64 x.At, .int .i64 x.Gen]
def rGRef : Rep GRef := ⟨2, fun _ cs x => cs = cGRef x , fun _ e => e, fun e => by rw [e]; rfl, fun e => by rw [e]; rfl⟩
structure GSlot where
  State : Int
  Kid : GRef
  Out : GOut
instance : Inhabited GSlot := ⟨⟨default, default, default⟩⟩
def cGSlot (x : GSlot)  : List Value := [.int .i64 x.State, .int .i64 x.Kid.At, .int .i64 x.Kid.Gen, .int .i64 x.Out.Trap, .int .i64 x.Out.V.Re, .int .i64 x.Out.V.Im]
def rGSlot : Rep GSlot := ⟨6, fun _ cs x => cs = cGSlot x , fun _ e => e, fun e => by rw [e]; rfl, fun e => by rw [e]; rfl⟩
structure GFrame where
  Fn : Int
  Pc : Int
  Stack : List GValue
  Locals : List GValue
  Slots : List GSlot
  Seed : Int
  Spawned : Int
  Draws : Int
  State : Int
  Wait : Int
  Out : GOut
  Up : GRef
  UpSlot : Int
instance : Inhabited GFrame := ⟨⟨default, default, default, default, default, default, default, default, default, default, default, default, default⟩⟩
def cGFrame (x : GFrame) (a2 : Option Addr) (c2 : Nat) (a3 : Option Addr) (c3 : Nat) (a4 : Option Addr) (c4 : Nat) : List Value := [.int .i64 x.Fn, .int .i64 x.Pc, .slice a2 x.Stack.length c2, .slice a3 x.Locals.length c3, .slice a4 x.Slots.length c4, .int .i64 x.Seed, .int .i64 x.Spawned, .int .i64 x.Draws, .int .i64 x.State, .int .i64 x.Wait, .int .i64 x.Out.Trap, .int .i64 x.Out.V.Re, .int .i64 x.Out.V.Im, .int .i64 x.Up.At, .int .i64 x.Up.Gen, .int .i64 x.UpSlot]
def rGFrame : Rep GFrame := ⟨16, fun h cs x => ∃ a2 c2 a3 c3 a4 c4, cs = cGFrame x a2 c2 a3 c3 a4 c4 ∧ Sl rGValue 16 h a2 c2 x.Stack ∧ Sl rGValue 16 h a3 c3 x.Locals ∧ Sl rGSlot 48 h a4 c4 x.Slots, fun le ⟨a2, c2, a3, c3, a4, c4, e, f2, f3, f4⟩ => ⟨a2, c2, a3, c3, a4, c4, e, f2.up le, f3.up le, f4.up le⟩, fun ⟨a2, c2, a3, c3, a4, c4, e, f2, f3, f4⟩ => by rw [e]; rfl, fun ⟨a2, c2, a3, c3, a4, c4, e, f2, f3, f4⟩ => by rw [e]; rfl⟩
structure Gspan where
  least : Int
  most : Int
instance : Inhabited Gspan := ⟨⟨default, default⟩⟩
def cGspan (x : Gspan)  : List Value := [.int .i64 x.least, .int .i64 x.most]
def rGspan : Rep Gspan := ⟨2, fun _ cs x => cs = cGspan x , fun _ e => e, fun e => by rw [e]; rfl, fun e => by rw [e]; rfl⟩
structure GAct where
  Kind : Int
  Fn : Int
  Slot : Int
  Seed : Int
  Args : List GValue
instance : Inhabited GAct := ⟨⟨default, default, default, default, default⟩⟩
def cGAct (x : GAct) (a4 : Option Addr) (c4 : Nat) : List Value := [.int .i64 x.Kind, .int .i64 x.Fn, .int .i64 x.Slot, .int .i64 x.Seed, .slice a4 x.Args.length c4]
def rGAct : Rep GAct := ⟨5, fun h cs x => ∃ a4 c4, cs = cGAct x a4 c4 ∧ Sl rGValue 16 h a4 c4 x.Args, fun le ⟨a4, c4, e, f4⟩ => ⟨a4, c4, e, f4.up le⟩, fun ⟨a4, c4, e, f4⟩ => by rw [e]; rfl, fun ⟨a4, c4, e, f4⟩ => by rw [e]; rfl⟩
structure Grunner where
  Frame : GFrame
  p : List GFunc
  x : GInstr
  act : GAct
instance : Inhabited Grunner := ⟨⟨default, default, default, default⟩⟩
def cGrunner (x : Grunner) (a2 : Option Addr) (c2 : Nat) (a3 : Option Addr) (c3 : Nat) (a4 : Option Addr) (c4 : Nat) (a16 : Option Addr) (c16 : Nat) (a24 : Option Addr) (c24 : Nat) : List Value := [.int .i64 x.Frame.Fn, .int .i64 x.Frame.Pc, .slice a2 x.Frame.Stack.length c2, .slice a3 x.Frame.Locals.length c3, .slice a4 x.Frame.Slots.length c4, .int .i64 x.Frame.Seed, .int .i64 x.Frame.Spawned, .int .i64 x.Frame.Draws, .int .i64 x.Frame.State, .int .i64 x.Frame.Wait, .int .i64 x.Frame.Out.Trap, .int .i64 x.Frame.Out.V.Re, .int .i64 x.Frame.Out.V.Im, .int .i64 x.Frame.Up.At, .int .i64 x.Frame.Up.Gen, .int .i64 x.Frame.UpSlot, .slice a16 x.p.length c16, .int .i64 x.x.Op, .int .i64 x.x.A, .int .i64 x.x.B, .int .i64 x.act.Kind, .int .i64 x.act.Fn, .int .i64 x.act.Slot, .int .i64 x.act.Seed, .slice a24 x.act.Args.length c24]
def rGrunner : Rep Grunner := ⟨25, fun h cs x => ∃ a2 c2 a3 c3 a4 c4 a16 c16 a24 c24, cs = cGrunner x a2 c2 a3 c3 a4 c4 a16 c16 a24 c24 ∧ Sl rGValue 16 h a2 c2 x.Frame.Stack ∧ Sl rGValue 16 h a3 c3 x.Frame.Locals ∧ Sl rGSlot 48 h a4 c4 x.Frame.Slots ∧ Sl rGFunc 48 h a16 c16 x.p ∧ Sl rGValue 16 h a24 c24 x.act.Args, fun le ⟨a2, c2, a3, c3, a4, c4, a16, c16, a24, c24, e, f2, f3, f4, f16, f24⟩ => ⟨a2, c2, a3, c3, a4, c4, a16, c16, a24, c24, e, f2.up le, f3.up le, f4.up le, f16.up le, f24.up le⟩, fun ⟨a2, c2, a3, c3, a4, c4, a16, c16, a24, c24, e, f2, f3, f4, f16, f24⟩ => by rw [e]; rfl, fun ⟨a2, c2, a3, c3, a4, c4, a16, c16, a24, c24, e, f2, f3, f4, f16, f24⟩ => by rw [e]; rfl⟩
structure Gkind where
  name : ByteArray
  fields : Int
  off : Int
  on : Int
instance : Inhabited Gkind := ⟨⟨default, default, default, default⟩⟩
def cGkind (x : Gkind)  : List Value := [.string x.name, .int .i64 x.fields, .int .i64 x.off, .int .i64 x.on]
def rGkind : Rep Gkind := ⟨4, fun _ cs x => cs = cGkind x , fun _ e => e, fun e => by rw [e]; rfl, fun e => by rw [e]; rfl⟩
structure GA17_Gkind where
  e0 : Gkind
  e1 : Gkind
  e2 : Gkind
  e3 : Gkind
  e4 : Gkind
  e5 : Gkind
  e6 : Gkind
  e7 : Gkind
  e8 : Gkind
  e9 : Gkind
  e10 : Gkind
  e11 : Gkind
  e12 : Gkind
  e13 : Gkind
  e14 : Gkind
  e15 : Gkind
  e16 : Gkind
instance : Inhabited GA17_Gkind := ⟨⟨default, default, default, default, default, default, default, default, default, default, default, default, default, default, default, default, default⟩⟩
def cGA17_Gkind (x : GA17_Gkind)  : List Value := [.string x.e0.name, .int .i64 x.e0.fields, .int .i64 x.e0.off, .int .i64 x.e0.on, .string x.e1.name, .int .i64 x.e1.fields, .int .i64 x.e1.off, .int .i64 x.e1.on, .string x.e2.name, .int .i64 x.e2.fields, .int .i64 x.e2.off, .int .i64 x.e2.on, .string x.e3.name, .int .i64 x.e3.fields, .int .i64 x.e3.off, .int .i64 x.e3.on, .string x.e4.name, .int .i64 x.e4.fields, .int .i64 x.e4.off, .int .i64 x.e4.on, .string x.e5.name, .int .i64 x.e5.fields, .int .i64 x.e5.off, .int .i64 x.e5.on, .string x.e6.name, .int .i64 x.e6.fields, .int .i64 x.e6.off, .int .i64 x.e6.on, .string x.e7.name, .int .i64 x.e7.fields, .int .i64 x.e7.off, .int .i64 x.e7.on, .string x.e8.name, .int .i64 x.e8.fields, .int .i64 x.e8.off, .int .i64 x.e8.on, .string x.e9.name, .int .i64 x.e9.fields, .int .i64 x.e9.off, .int .i64 x.e9.on, .string x.e10.name, .int .i64 x.e10.fields, .int .i64 x.e10.off, .int .i64 x.e10.on, .string x.e11.name, .int .i64 x.e11.fields, .int .i64 x.e11.off, .int .i64 x.e11.on, .string x.e12.name, .int .i64 x.e12.fields, .int .i64 x.e12.off, .int .i64 x.e12.on, .string x.e13.name, .int .i64 x.e13.fields, .int .i64 x.e13.off, .int .i64 x.e13.on, .string x.e14.name, .int .i64 x.e14.fields, .int .i64 x.e14.off, .int .i64 x.e14.on, .string x.e15.name, .int .i64 x.e15.fields, .int .i64 x.e15.off, .int .i64 x.e15.on, .string x.e16.name, .int .i64 x.e16.fields, .int .i64 x.e16.off, .int .i64 x.e16.on]
def rGA17_Gkind : Rep GA17_Gkind := ⟨68, fun _ cs x => cs = cGA17_Gkind x , fun _ e => e, fun e => by rw [e]; rfl, fun e => by rw [e]; rfl⟩
def r07_Split_l1 (K : Nat) (x0 : ByteArray) (x1 : Int) : Nat → (List ByteArray × Int × Int) → Option (List ByteArray)
  | 0, _ => none
  | k1 + 1, (y52, y53, y54) =>
    if decide (y54 ≤ (x0.size : Int)) then
      (
          if y54 == (x0.size : Int) then
            some true
          else
            if 0 ≤ y54 ∧ y54 < x0.size then
              some ((strAt x0 y54) == x1)
            else none).bind fun y56 =>
      if y56 then
        if 0 ≤ y53 ∧ y53 ≤ y54 ∧ y54 ≤ (x0.size : Int) then
          if (y52.length + [strCut x0 y53 y54].length) * 16 ≤ LIM then
            r07_Split_l1 K x0 x1 k1 ((y52 ++ [strCut x0 y53 y54]), w64 (y54 + 1), w64 (y54 + 1))
          else none
        else none
      else
        r07_Split_l1 K x0 x1 k1 (y52, y53, w64 (y54 + 1))
    else
      some y52
def r07_Split (K : Nat) (x0 : ByteArray) (x1 : Int) : Option (List ByteArray) :=
  r07_Split_l1 K x0 x1 K ([], 0, 0)
set_option maxRecDepth 100000 in
set_option maxHeartbeats 4000000 in
theorem c_r07_Split {w0 w : World} {h : Gh} {L : List Ent} (K : Nat) (x0 : ByteArray) (x1 : Int) (H : St w0 h w L) {r : (List ByteArray)} (hr : r07_Split K x0 x1 = some r) : Calls Try.prog 67 #[.string x0, .int .u8 x1] w (fun e w' => ∃ v, e = .returned v ∧ ∃ (h' : Gh) (a901 : Option Addr) (c901 : Nat), v = .slice a901 r.length c901 ∧ h.le h' ∧ St w0 h' w' (row Rep.str 16 h' a901 c901 r :: L)) := by
  refine calls_of (args := [.string x0, .int .u8 x1]) (n := 36) (rs := [.tmp 4]) Try.func67 rfl rfl rfl rfl rfl ?_
  unfold r07_Split at hr
  refine WE.seq ?_
  refine WE.region ?_
  refine WL.fin 1 kr kr ?_
  refine WE.seq ?_
  refine WE.region ?_
  refine WL.does kr kr (Does.lit (K := Rep.str) (B := 16) (xs := []) (e := 9) H [] kr Rows.nil kr kr kr kr fun b32 w H => ?_)
  refine WL.fin 1 kr kr ?_
  refine WE.seq ?_
  refine WE.region ?_
  refine WL.fin 1 kr kr ?_
  refine WE.seq ?_
  refine WE.seq ?_
  refine WE.region ?_
  refine WL.fin 1 kr kr ?_
  refine WE.block ?_
  refine WE.loop (LP.live [0, 1, 5, 6, 7] kr (LP.rec (r07_Split_l1 K x0 x1) (fun (⟨y52, y53, y54⟩ : List ByteArray × Int × Int) (⟨a52, c52⟩ : Option Addr × Nat) => [(0, .string x0), (1, .int .u8 x1), (5, .slice a52 y52.length c52), (6, .int .i64 y53), (7, .int .i64 y54)]) (fun (⟨y52, y53, y54⟩ : List ByteArray × Int × Int) (⟨a52, c52⟩ : Option Addr × Nat) => fun w => St w0 h w (row Rep.str 16 h a52 c52 y52 :: L)) r (fun _ => rfl) ?_ K ([], 0, 0) ((some ⟨b32, 0, none⟩), 0) _ H hr))
  rintro k1 ih1 ⟨y52, y53, y54⟩ ⟨a52, c52⟩ w H hr
  simp only [r07_Split_l1] at hr
  refine WE.seq ?_
  refine WE.seq ?_
  refine WE.region ?_
  refine WL.fin 4 kr kr ?_
  rcases ite_cases hr with ⟨t55, hr⟩ | ⟨t55, hr⟩
  {
  refine WE.yes kr (b := decide (y54 ≤ (x0.size : Int))) kr t55 ?_
  refine WE.skip ?_
  refine WE.seq ?_
  refine WE.block ?_
  refine WE.seq ?_
  refine WE.region ?_
  refine WL.sg 5 kr ?_
  obtain ⟨y56, hy56, hr⟩ := bind_cases hr
  refine WL.join 6 (fun (_ : Unit) => [(0, .string x0), (1, .int .u8 x1), (5, .slice a52 y52.length c52), (6, .int .i64 y53), (7, .int .i64 y54), (25, .bool y56)]) (fun (_ : Unit) w => St w0 h w (row Rep.str 16 h a52 c52 y52 :: L)) ?_ (fun hk_y56 => ?_)
  {
  rintro _ w H
  refine WL.fin 0 kr kr ?_
  rcases ite_cases hr with ⟨t58, hr⟩ | ⟨t58, hr⟩
  {
  refine WE.yes kr (b := y56) kr t58 ?_
  refine WE.seq ?_
  refine WE.region ?_
  obtain ⟨⟨g0_59, g1_59, g2_59⟩, hr⟩ := grd_cases hr
  refine WL.sg 4 kr ?_
  refine WL.does kr kr (Does.tells (.strCut (some y53) (some y54) y53 y54 kr kr kr kr rfl rfl g0_59 g1_59 g2_59) ?_)
  refine WL.does kr kr (Does.lit (K := Rep.str) (B := 16) (xs := [strCut x0 y53 y54]) (e := 9) H ([.string (strCut x0 y53 y54)] ++ []) kr (Rows.cons (C := [.string (strCut x0 y53 y54)]) (x := strCut x0 y53 y54) (by show _ = _; kernel_rfl) Rows.nil) kr kr kr kr fun b60 w H => ?_)
  obtain ⟨g61, hr⟩ := grd_cases hr
  refine WL.does kr kr (Does.append (t := 111) (xt := 111) (ty := 111) (e := 9) (e2 := 9) (z := .string ByteArray.empty) H 1 rfl (Gh.refl _) (ys := [strCut x0 y53 y54]) (c2 := 1) (H.rowSrc 0 rfl (Gh.refl _)) g61 kr kr kr kr fun a61 c61 w H => ?_)
  refine WL.fin 1 kr kr ?_
  refine WE.region ?_
  refine WL.fin 3 kr kr ?_
  refine WE.region ?_
  refine WL.fin 3 kr kr ?_
  exact LP.live [0, 1, 5, 6, 7] kr (ih1 ((y52 ++ [strCut x0 y53 y54]), w64 (y54 + 1), w64 (y54 + 1)) (a61, c61) _ (H.keep 1) hr)
  }
  {
  refine WE.no kr (b := y56) kr t58 ?_
  refine WE.skip ?_
  refine WE.region ?_
  refine WL.fin 3 kr kr ?_
  exact LP.live [0, 1, 5, 6, 7] kr (ih1 (y52, y53, w64 (y54 + 1)) (a52, c52) _ H hr)
  }
  }
  rcases ite_cases hy56 with ⟨ty56, hy56⟩ | ⟨ty56, hy56⟩
  {
  refine WL.known 19 ty56 kr kr ?_
  refine WL.sg 6 kr ?_
  obtain rfl := Option.some.inj hy56
  exact WL.live [0, 1, 5, 6, 7, 25] kr (hk_y56 () _ H)
  }
  {
  refine WL.known 19 ty56 kr kr ?_
  obtain ⟨⟨g0_62, g1_62⟩, hy56⟩ := grd_cases hy56
  refine WL.sg 2 kr ?_
  refine WL.does kr kr (Does.tells (.strAt kr kr g0_62 g1_62 kr) ?_)
  refine WL.sg 3 kr ?_
  obtain rfl := Option.some.inj hy56
  exact WL.live [0, 1, 5, 6, 7, 25] kr (hk_y56 () _ H)
  }
  }
  {
  refine WE.no kr (b := decide (y54 ≤ (x0.size : Int))) kr t55 ?_
  refine WE.exit ?_
  refine WE.seq ?_
  refine WE.region ?_
  refine WL.fin 2 kr kr ?_
  obtain rfl := Option.some.inj hr
  exact WE.ret ⟨[.slice a52 y52.length c52], ⟨⟨kr, kr⟩, trivial⟩, ⟨h, a52, c52, rfl, (Gh.refl _), H⟩⟩
  }
def r04_Digits : Nat → Int → Option ByteArray
  | 0, _ => none
  | K + 1, x0 =>
    if decide (x0 < 0) then
      if decide ((w64 (x0.tdiv 10)) < 0) then
        (r04_Digits K (w64 (0 - (w64 (x0.tdiv 10))))).bind fun y3 =>
        if (⟨#[45]⟩ : ByteArray).size + y3.size ≤ 9223372036854775807 then
          if ((⟨#[45]⟩ : ByteArray) ++ y3).size + (strOf [IntKind.wrap .u8 (w64 (48 - (Int.tmod x0 10)))]).size ≤ 9223372036854775807 then
            some (((⟨#[45]⟩ : ByteArray) ++ y3) ++ (strOf [IntKind.wrap .u8 (w64 (48 - (Int.tmod x0 10)))]))
          else none
        else none
      else
        if (⟨#[45]⟩ : ByteArray).size + (⟨#[]⟩ : ByteArray).size ≤ 9223372036854775807 then
          if ((⟨#[45]⟩ : ByteArray) ++ (⟨#[]⟩ : ByteArray)).size + (strOf [IntKind.wrap .u8 (w64 (48 - (Int.tmod x0 10)))]).size ≤ 9223372036854775807 then
            some (((⟨#[45]⟩ : ByteArray) ++ (⟨#[]⟩ : ByteArray)) ++ (strOf [IntKind.wrap .u8 (w64 (48 - (Int.tmod x0 10)))]))
          else none
        else none
    else
      if decide (x0 ≥ 10) then
        (r04_Digits K (w64 (x0.tdiv 10))).bind fun y12 =>
        if y12.size + (strOf [IntKind.wrap .u8 (w64 (48 + (Int.tmod x0 10)))]).size ≤ 9223372036854775807 then
          some (y12 ++ (strOf [IntKind.wrap .u8 (w64 (48 + (Int.tmod x0 10)))]))
        else none
      else
        some (strOf [IntKind.wrap .u8 (w64 (48 + (Int.tmod x0 10)))])
set_option maxRecDepth 100000 in
set_option maxHeartbeats 4000000 in
theorem c_r04_Digits (K : Nat) : ∀ {w0 w : World} {h : Gh} {L : List Ent} (x0 : Int) (H : St w0 h w L) {r : ByteArray} (hr : r04_Digits K x0 = some r), Calls Try.prog 91 #[.int .i64 x0] w (fun e w' => ∃ v, e = .returned v ∧ v = .string r ∧ St w0 h w' (L)) := by
  induction K with
  | zero => intro w0 w h L x0 H r hr; exact absurd hr (by simp [r04_Digits])
  | succ K ih =>
    intro w0 w h L x0 H r hr
    refine calls_of (args := [.int .i64 x0]) (n := 37) (rs := [.tmp 2]) Try.func91 rfl rfl rfl rfl rfl ?_
    simp only [r04_Digits] at hr
    refine WE.seq ?_
    refine WE.region ?_
    refine WL.fin 1 kr kr ?_
    refine WE.seq ?_
    refine WE.seq ?_
    refine WE.region ?_
    refine WL.fin 2 kr kr ?_
    rcases ite_cases hr with ⟨t1, hr⟩ | ⟨t1, hr⟩
    {
    refine WE.yes kr (b := decide (x0 < 0)) kr t1 ?_
    refine WE.seq ?_
    refine WE.region ?_
    refine WL.fin 1 kr kr ?_
    refine WE.seq ?_
    refine WE.seq ?_
    refine WE.region ?_
    refine WL.fin 3 kr kr ?_
    rcases ite_cases hr with ⟨t2, hr⟩ | ⟨t2, hr⟩
    {
    refine WE.yes kr (b := decide ((w64 (x0.tdiv 10)) < 0)) kr t2 ?_
    refine WE.region ?_
    obtain ⟨y3, q3, hr⟩ := bind_cases hr
    refine WL.sg 3 kr ?_
    refine WL.does kr kr (Does.call (ih (w64 (0 - (w64 (x0.tdiv 10)))) H q3) kr ?_)
    rintro _ w ⟨rfl, H⟩
    refine WL.fin 1 kr kr ?_
    refine WE.seq ?_
    refine WE.region ?_
    obtain ⟨g4, hr⟩ := grd_cases hr
    refine WL.sg 1 kr ?_
    refine WL.does kr kr (Does.tells (.concat (u := (⟨#[45]⟩ : ByteArray)) (v := y3) kr kr g4 kr) ?_)
    refine WL.sg 4 kr ?_
    refine WL.does kr kr (Does.lit (K := (Rep.int .u8)) (B := 1) (xs := [IntKind.wrap .u8 (w64 (48 - (Int.tmod x0 10)))]) (e := 5) H ([.int .u8 (IntKind.wrap .u8 (w64 (48 - (Int.tmod x0 10))))] ++ []) kr (Rows.cons (C := [.int .u8 (IntKind.wrap .u8 (w64 (48 - (Int.tmod x0 10))))]) (x := IntKind.wrap .u8 (w64 (48 - (Int.tmod x0 10)))) (by show _ = _; kernel_rfl) Rows.nil) kr kr kr kr fun b5 w H => ?_)
    refine WL.does kr kr (Does.tells (.bytesStr (e := 5) H 0 rfl kr kr kr kr) ?_)
    obtain ⟨g6, hr⟩ := grd_cases hr
    refine WL.does kr kr (Does.tells (.concat (u := (⟨#[45]⟩ : ByteArray) ++ y3) (v := strOf [IntKind.wrap .u8 (w64 (48 - (Int.tmod x0 10)))]) kr kr g6 kr) ?_)
    refine WL.fin 1 kr kr ?_
    obtain rfl := Option.some.inj hr
    exact WE.ret ⟨[.string (((⟨#[45]⟩ : ByteArray) ++ y3) ++ (strOf [IntKind.wrap .u8 (w64 (48 - (Int.tmod x0 10)))]))], ⟨⟨kr, kr⟩, trivial⟩, ⟨rfl, (H.keep 1)⟩⟩
    }
    {
    refine WE.no kr (b := decide ((w64 (x0.tdiv 10)) < 0)) kr t2 ?_
    refine WE.skip ?_
    refine WE.seq ?_
    refine WE.region ?_
    obtain ⟨g7, hr⟩ := grd_cases hr
    refine WL.sg 1 kr ?_
    refine WL.does kr kr (Does.tells (.concat (u := (⟨#[45]⟩ : ByteArray)) (v := (⟨#[]⟩ : ByteArray)) kr kr g7 kr) ?_)
    refine WL.sg 4 kr ?_
    refine WL.does kr kr (Does.lit (K := (Rep.int .u8)) (B := 1) (xs := [IntKind.wrap .u8 (w64 (48 - (Int.tmod x0 10)))]) (e := 5) H ([.int .u8 (IntKind.wrap .u8 (w64 (48 - (Int.tmod x0 10))))] ++ []) kr (Rows.cons (C := [.int .u8 (IntKind.wrap .u8 (w64 (48 - (Int.tmod x0 10))))]) (x := IntKind.wrap .u8 (w64 (48 - (Int.tmod x0 10)))) (by show _ = _; kernel_rfl) Rows.nil) kr kr kr kr fun b8 w H => ?_)
    refine WL.does kr kr (Does.tells (.bytesStr (e := 5) H 0 rfl kr kr kr kr) ?_)
    obtain ⟨g9, hr⟩ := grd_cases hr
    refine WL.does kr kr (Does.tells (.concat (u := (⟨#[45]⟩ : ByteArray) ++ (⟨#[]⟩ : ByteArray)) (v := strOf [IntKind.wrap .u8 (w64 (48 - (Int.tmod x0 10)))]) kr kr g9 kr) ?_)
    refine WL.fin 1 kr kr ?_
    obtain rfl := Option.some.inj hr
    exact WE.ret ⟨[.string (((⟨#[45]⟩ : ByteArray) ++ (⟨#[]⟩ : ByteArray)) ++ (strOf [IntKind.wrap .u8 (w64 (48 - (Int.tmod x0 10)))]))], ⟨⟨kr, kr⟩, trivial⟩, ⟨rfl, (H.keep 1)⟩⟩
    }
    }
    {
    refine WE.no kr (b := decide (x0 < 0)) kr t1 ?_
    refine WE.skip ?_
    refine WE.seq ?_
    refine WE.region ?_
    refine WL.sg 4 kr ?_
    refine WL.does kr kr (Does.lit (K := (Rep.int .u8)) (B := 1) (xs := [IntKind.wrap .u8 (w64 (48 + (Int.tmod x0 10)))]) (e := 5) H ([.int .u8 (IntKind.wrap .u8 (w64 (48 + (Int.tmod x0 10))))] ++ []) kr (Rows.cons (C := [.int .u8 (IntKind.wrap .u8 (w64 (48 + (Int.tmod x0 10))))]) (x := IntKind.wrap .u8 (w64 (48 + (Int.tmod x0 10)))) (by show _ = _; kernel_rfl) Rows.nil) kr kr kr kr fun b10 w H => ?_)
    refine WL.does kr kr (Does.tells (.bytesStr (e := 5) H 0 rfl kr kr kr kr) ?_)
    refine WL.fin 1 kr kr ?_
    refine WE.seq ?_
    refine WE.seq ?_
    refine WE.region ?_
    refine WL.fin 2 kr kr ?_
    rcases ite_cases hr with ⟨t11, hr⟩ | ⟨t11, hr⟩
    {
    refine WE.yes kr (b := decide (x0 ≥ 10)) kr t11 ?_
    refine WE.region ?_
    obtain ⟨y12, q12, hr⟩ := bind_cases hr
    refine WL.sg 2 kr ?_
    refine WL.does kr kr (Does.call (ih (w64 (x0.tdiv 10)) H q12) kr ?_)
    rintro _ w ⟨rfl, H⟩
    obtain ⟨g13, hr⟩ := grd_cases hr
    refine WL.sg 1 kr ?_
    refine WL.does kr kr (Does.tells (.concat (u := y12) (v := strOf [IntKind.wrap .u8 (w64 (48 + (Int.tmod x0 10)))]) kr kr g13 kr) ?_)
    refine WL.fin 1 kr kr ?_
    refine WE.seq ?_
    refine WE.region ?_
    refine WL.fin 2 kr kr ?_
    obtain rfl := Option.some.inj hr
    exact WE.ret ⟨[.string (y12 ++ (strOf [IntKind.wrap .u8 (w64 (48 + (Int.tmod x0 10)))]))], ⟨⟨kr, kr⟩, trivial⟩, ⟨rfl, (H.keep 1)⟩⟩
    }
    {
    refine WE.no kr (b := decide (x0 ≥ 10)) kr t11 ?_
    refine WE.skip ?_
    refine WE.seq ?_
    refine WE.region ?_
    refine WL.fin 2 kr kr ?_
    obtain rfl := Option.some.inj hr
    exact WE.ret ⟨[.string (strOf [IntKind.wrap .u8 (w64 (48 + (Int.tmod x0 10)))])], ⟨⟨kr, kr⟩, trivial⟩, ⟨rfl, (H.keep 1)⟩⟩
    }
    }
def r07_Number_l1 (K : Nat) (x0 : ByteArray) : Nat → (Int × Int) → Option Int
  | 0, _ => none
  | k1 + 1, (y8, y9) =>
    if decide (y9 < (x0.size : Int)) then
      if 0 ≤ y9 ∧ y9 < x0.size then
        r07_Number_l1 K x0 k1 (w64 ((w64 ((w64 (10 * y8)) + (w64 (strAt x0 y9)))) - 48), w64 (y9 + 1))
      else none
    else
      (
          if decide (y8 < 0) then
            some true
          else
            (r04_Digits K y8).bind fun y15 =>
            some (!(y15.toList == x0.toList))).bind fun y12 =>
      if y12 then
        some (-1)
      else
        some y8
def r07_Number (K : Nat) (x0 : ByteArray) : Option Int :=
  if decide ((x0.size : Int) > 3) then
    some (-1)
  else
    r07_Number_l1 K x0 K (0, 0)
set_option maxRecDepth 100000 in
set_option maxHeartbeats 4000000 in
theorem c_r07_Number {w0 w : World} {h : Gh} {L : List Ent} (K : Nat) (x0 : ByteArray) (H : St w0 h w L) {r : Int} (hr : r07_Number K x0 = some r) : Calls Try.prog 83 #[.string x0] w (fun e w' => ∃ v, e = .returned v ∧ v = .int .i64 r ∧ St w0 h w' (L)) := by
  refine calls_of (args := [.string x0]) (n := 31) (rs := [.tmp 2]) Try.func83 rfl rfl rfl rfl rfl ?_
  unfold r07_Number at hr
  refine WE.seq ?_
  refine WE.region ?_
  refine WL.fin 1 kr kr ?_
  refine WE.seq ?_
  refine WE.region ?_
  refine WL.fin 1 kr kr ?_
  refine WE.seq ?_
  refine WE.seq ?_
  refine WE.region ?_
  refine WL.fin 3 kr kr ?_
  rcases ite_cases hr with ⟨t1, hr⟩ | ⟨t1, hr⟩
  {
  refine WE.yes kr (b := decide ((x0.size : Int) > 3)) kr t1 ?_
  refine WE.seq ?_
  refine WE.region ?_
  refine WL.fin 1 kr kr ?_
  obtain rfl := Option.some.inj hr
  exact WE.ret ⟨[.int .i64 (-1)], ⟨⟨kr, kr⟩, trivial⟩, ⟨rfl, H⟩⟩
  }
  {
  refine WE.no kr (b := decide ((x0.size : Int) > 3)) kr t1 ?_
  refine WE.skip ?_
  refine WE.seq ?_
  refine WE.seq ?_
  refine WE.region ?_
  refine WL.fin 1 kr kr ?_
  refine WE.block ?_
  refine WE.loop (LP.live [0, 3, 4] kr (LP.rec (r07_Number_l1 K x0) (fun (⟨y8, y9⟩ : Int × Int) (_ : Unit) => [(0, .string x0), (3, .int .i64 y8), (4, .int .i64 y9)]) (fun (⟨y8, y9⟩ : Int × Int) (_ : Unit) => fun w => St w0 h w (L)) r (fun _ => rfl) ?_ K (0, 0) () _ H hr))
  rintro k1 ih1 ⟨y8, y9⟩ _ w H hr
  simp only [r07_Number_l1] at hr
  refine WE.seq ?_
  refine WE.seq ?_
  refine WE.region ?_
  refine WL.fin 4 kr kr ?_
  rcases ite_cases hr with ⟨t10, hr⟩ | ⟨t10, hr⟩
  {
  refine WE.yes kr (b := decide (y9 < (x0.size : Int))) kr t10 ?_
  refine WE.skip ?_
  refine WE.seq ?_
  refine WE.block ?_
  refine WE.region ?_
  obtain ⟨⟨g0_11, g1_11⟩, hr⟩ := grd_cases hr
  refine WL.sg 4 kr ?_
  refine WL.does kr kr (Does.tells (.strAt kr kr g0_11 g1_11 kr) ?_)
  refine WL.fin 4 kr kr ?_
  refine WE.region ?_
  refine WL.fin 3 kr kr ?_
  exact LP.live [0, 3, 4] kr (ih1 (w64 ((w64 ((w64 (10 * y8)) + (w64 (strAt x0 y9)))) - 48), w64 (y9 + 1)) () _ H hr)
  }
  {
  refine WE.no kr (b := decide (y9 < (x0.size : Int))) kr t10 ?_
  refine WE.exit ?_
  refine WE.seq ?_
  refine WE.seq ?_
  refine WE.region ?_
  refine WL.sg 3 kr ?_
  obtain ⟨y12, hy12, hr⟩ := bind_cases hr
  refine WL.join 5 (fun (_ : Unit) => [(3, .int .i64 y8), (29, .bool y12)]) (fun (_ : Unit) w => St w0 h w (L)) ?_ (fun hk_y12 => ?_)
  {
  rintro _ w H
  refine WL.fin 0 kr kr ?_
  rcases ite_cases hr with ⟨t14, hr⟩ | ⟨t14, hr⟩
  {
  refine WE.yes kr (b := y12) kr t14 ?_
  refine WE.seq ?_
  refine WE.region ?_
  refine WL.fin 1 kr kr ?_
  obtain rfl := Option.some.inj hr
  exact WE.ret ⟨[.int .i64 (-1)], ⟨⟨kr, kr⟩, trivial⟩, ⟨rfl, H⟩⟩
  }
  {
  refine WE.no kr (b := y12) kr t14 ?_
  refine WE.skip ?_
  refine WE.seq ?_
  refine WE.region ?_
  refine WL.fin 2 kr kr ?_
  obtain rfl := Option.some.inj hr
  exact WE.ret ⟨[.int .i64 y8], ⟨⟨kr, kr⟩, trivial⟩, ⟨rfl, H⟩⟩
  }
  }
  rcases ite_cases hy12 with ⟨ty12, hy12⟩ | ⟨ty12, hy12⟩
  {
  refine WL.known 24 ty12 kr kr ?_
  refine WL.sg 5 kr ?_
  obtain rfl := Option.some.inj hy12
  exact WL.live [3, 29] kr (hk_y12 () _ H)
  }
  {
  refine WL.known 24 ty12 kr kr ?_
  obtain ⟨y15, q15, hy12⟩ := bind_cases hy12
  refine WL.sg 1 kr ?_
  refine WL.does kr kr (Does.call (c_r04_Digits K y8 H q15) kr ?_)
  rintro _ w ⟨rfl, H⟩
  refine WL.sg 3 kr ?_
  obtain rfl := Option.some.inj hy12
  exact WL.live [3, 29] kr (hk_y12 () _ H)
  }
  }
  }
def r07_Head (x0 : GFunc) : Bool :=
  bnd (
      if decide (x0.Arity ≥ 0) then
        decide (x0.Arity ≤ 16)
      else
        false) fun y3 =>
  bnd (
      if y3 then
        decide (x0.Locals ≥ 0)
      else
        false) fun y4 =>
  bnd (
      if y4 then
        decide (x0.Locals ≤ 16)
      else
        false) fun y5 =>
  bnd (
      if y5 then
        decide (x0.Slots ≥ 0)
      else
        false) fun y6 =>
  bnd (
      if y6 then
        decide (x0.Slots ≤ 8)
      else
        false) fun y7 =>
  y7
set_option maxRecDepth 100000 in
set_option maxHeartbeats 4000000 in
theorem c_r07_Head {w0 w : World} {h : Gh} {L : List Ent} (x0 : GFunc) {a1 : Option Addr} {c1 : Nat} (f1 : Sl rGInstr 24 h a1 c1 x0.Code) (H : St w0 h w L) {r : Bool} (hr : r07_Head x0 = r) : Calls Try.prog 71 #[.agg (cGFunc x0 a1 c1).toArray] w (fun e w' => ∃ v, e = .returned v ∧ v = .bool r ∧ St w0 h w' (L)) := by
  refine calls_of (args := [.agg (cGFunc x0 a1 c1).toArray]) (n := 31) (rs := [.tmp 2]) Try.func71 rfl rfl rfl rfl rfl ?_
  unfold r07_Head at hr
  refine WE.seq ?_
  refine WE.region ?_
  refine WL.does kr kr (Does.box H (cGFunc x0 a1 c1) kr fun b2 w H => ?_)
  refine WL.fin 1 kr kr ?_
  refine WE.seq ?_
  refine WE.region ?_
  refine WL.sg 1 kr ?_
  refine WL.does kr kr (Does.loadV H 0 rfl 0 kr kr ?_)
  refine WL.sg 2 kr ?_
  obtain ⟨y3, hy3, hr⟩ := bnd_cases hr
  refine WL.join 4 (fun (_ : Unit) => [(1, .pointer (some ⟨b2, 0, none⟩)), (10, .bool y3)]) (fun (_ : Unit) w => St w0 h w (var b2 (cGFunc x0 a1 c1) 31 :: L)) ?_ (fun hk_y3 => ?_)
  {
  rintro _ w H
  refine WL.sg 1 kr ?_
  obtain ⟨y4, hy4, hr⟩ := bnd_cases hr
  refine WL.join 4 (fun (_ : Unit) => [(1, .pointer (some ⟨b2, 0, none⟩)), (15, .bool y4)]) (fun (_ : Unit) w => St w0 h w (var b2 (cGFunc x0 a1 c1) 31 :: L)) ?_ (fun hk_y4 => ?_)
  {
  rintro _ w H
  refine WL.sg 1 kr ?_
  obtain ⟨y5, hy5, hr⟩ := bnd_cases hr
  refine WL.join 4 (fun (_ : Unit) => [(1, .pointer (some ⟨b2, 0, none⟩)), (20, .bool y5)]) (fun (_ : Unit) w => St w0 h w (var b2 (cGFunc x0 a1 c1) 31 :: L)) ?_ (fun hk_y5 => ?_)
  {
  rintro _ w H
  refine WL.sg 1 kr ?_
  obtain ⟨y6, hy6, hr⟩ := bnd_cases hr
  refine WL.join 4 (fun (_ : Unit) => [(1, .pointer (some ⟨b2, 0, none⟩)), (25, .bool y6)]) (fun (_ : Unit) w => St w0 h w (var b2 (cGFunc x0 a1 c1) 31 :: L)) ?_ (fun hk_y6 => ?_)
  {
  rintro _ w H
  refine WL.sg 1 kr ?_
  obtain ⟨y7, hy7, hr⟩ := bnd_cases hr
  refine WL.join 4 (fun (_ : Unit) => [(30, .bool y7)]) (fun (_ : Unit) w => St w0 h w (var b2 (cGFunc x0 a1 c1) 31 :: L)) ?_ (fun hk_y7 => ?_)
  {
  rintro _ w H
  refine WL.fin 1 kr kr ?_
  obtain rfl := hr
  exact WE.ret ⟨[.bool y7], ⟨⟨kr, kr⟩, trivial⟩, ⟨rfl, (H.keep 1)⟩⟩
  }
  rcases ite_cases hy7 with ⟨ty7, hy7⟩ | ⟨ty7, hy7⟩
  {
  refine WL.known 26 ty7 kr kr ?_
  refine WL.sg 1 kr ?_
  refine WL.does kr kr (Does.loadV H 0 rfl 2 kr kr ?_)
  refine WL.sg 2 kr ?_
  obtain rfl := hy7
  exact WL.live [30] kr (hk_y7 () _ H)
  }
  {
  refine WL.known 26 ty7 kr kr ?_
  refine WL.sg 4 kr ?_
  obtain rfl := hy7
  exact WL.live [30] kr (hk_y7 () _ H)
  }
  }
  rcases ite_cases hy6 with ⟨ty6, hy6⟩ | ⟨ty6, hy6⟩
  {
  refine WL.known 21 ty6 kr kr ?_
  refine WL.sg 1 kr ?_
  refine WL.does kr kr (Does.loadV H 0 rfl 2 kr kr ?_)
  refine WL.sg 2 kr ?_
  obtain rfl := hy6
  exact WL.live [1, 25] kr (hk_y6 () _ H)
  }
  {
  refine WL.known 21 ty6 kr kr ?_
  refine WL.sg 4 kr ?_
  obtain rfl := hy6
  exact WL.live [1, 25] kr (hk_y6 () _ H)
  }
  }
  rcases ite_cases hy5 with ⟨ty5, hy5⟩ | ⟨ty5, hy5⟩
  {
  refine WL.known 16 ty5 kr kr ?_
  refine WL.sg 1 kr ?_
  refine WL.does kr kr (Does.loadV H 0 rfl 1 kr kr ?_)
  refine WL.sg 2 kr ?_
  obtain rfl := hy5
  exact WL.live [1, 20] kr (hk_y5 () _ H)
  }
  {
  refine WL.known 16 ty5 kr kr ?_
  refine WL.sg 4 kr ?_
  obtain rfl := hy5
  exact WL.live [1, 20] kr (hk_y5 () _ H)
  }
  }
  rcases ite_cases hy4 with ⟨ty4, hy4⟩ | ⟨ty4, hy4⟩
  {
  refine WL.known 11 ty4 kr kr ?_
  refine WL.sg 1 kr ?_
  refine WL.does kr kr (Does.loadV H 0 rfl 1 kr kr ?_)
  refine WL.sg 2 kr ?_
  obtain rfl := hy4
  exact WL.live [1, 15] kr (hk_y4 () _ H)
  }
  {
  refine WL.known 11 ty4 kr kr ?_
  refine WL.sg 4 kr ?_
  obtain rfl := hy4
  exact WL.live [1, 15] kr (hk_y4 () _ H)
  }
  }
  rcases ite_cases hy3 with ⟨ty3, hy3⟩ | ⟨ty3, hy3⟩
  {
  refine WL.known 6 ty3 kr kr ?_
  refine WL.sg 1 kr ?_
  refine WL.does kr kr (Does.loadV H 0 rfl 0 kr kr ?_)
  refine WL.sg 2 kr ?_
  obtain rfl := hy3
  exact WL.live [1, 10] kr (hk_y3 () _ H)
  }
  {
  refine WL.known 6 ty3 kr kr ?_
  refine WL.sg 4 kr ?_
  obtain rfl := hy3
  exact WL.live [1, 10] kr (hk_y3 () _ H)
  }
def r06_names : (List ByteArray) :=
  [(⟨#[112, 117, 115, 104]⟩ : ByteArray), (⟨#[108, 111, 97, 100]⟩ : ByteArray), (⟨#[115, 116, 111, 114, 101]⟩ : ByteArray), (⟨#[97, 100, 100]⟩ : ByteArray), (⟨#[115, 117, 98]⟩ : ByteArray), (⟨#[109, 117, 108]⟩ : ByteArray), (⟨#[100, 105, 118]⟩ : ByteArray), (⟨#[99, 111, 110, 106]⟩ : ByteArray), (⟨#[100, 117, 112]⟩ : ByteArray), (⟨#[100, 114, 111, 112]⟩ : ByteArray), (⟨#[106, 117, 109, 112]⟩ : ByteArray), (⟨#[122, 101, 114, 111]⟩ : ByteArray), (⟨#[114, 97, 110, 100]⟩ : ByteArray), (⟨#[115, 112, 97, 119, 110]⟩ : ByteArray), (⟨#[106, 111, 105, 110]⟩ : ByteArray), (⟨#[114, 101, 116]⟩ : ByteArray), (⟨#[116, 114, 97, 112]⟩ : ByteArray)]
set_option maxRecDepth 100000 in
set_option maxHeartbeats 4000000 in
theorem c_r06_names {w0 w : World} {h : Gh} {L : List Ent} (H : St w0 h w L) {r : (List ByteArray)} (hr : r06_names = r) : Calls Try.prog 92 #[] w (fun e w' => ∃ v, e = .returned v ∧ ∃ (h' : Gh) (a901 : Option Addr) (c901 : Nat), v = .slice a901 r.length c901 ∧ h.le h' ∧ St w0 h' w' (row Rep.str 16 h' a901 c901 r :: L)) := by
  refine calls_of (args := []) (n := 2) (rs := [.tmp 0]) Try.func92 rfl rfl rfl rfl rfl ?_
  unfold r06_names at hr
  refine WE.seq ?_
  refine WE.region ?_
  refine WL.fin 1 kr kr ?_
  refine WE.seq ?_
  refine WE.region ?_
  refine WL.does kr kr (Does.lit (K := Rep.str) (B := 16) (xs := [(⟨#[112, 117, 115, 104]⟩ : ByteArray), (⟨#[108, 111, 97, 100]⟩ : ByteArray), (⟨#[115, 116, 111, 114, 101]⟩ : ByteArray), (⟨#[97, 100, 100]⟩ : ByteArray), (⟨#[115, 117, 98]⟩ : ByteArray), (⟨#[109, 117, 108]⟩ : ByteArray), (⟨#[100, 105, 118]⟩ : ByteArray), (⟨#[99, 111, 110, 106]⟩ : ByteArray), (⟨#[100, 117, 112]⟩ : ByteArray), (⟨#[100, 114, 111, 112]⟩ : ByteArray), (⟨#[106, 117, 109, 112]⟩ : ByteArray), (⟨#[122, 101, 114, 111]⟩ : ByteArray), (⟨#[114, 97, 110, 100]⟩ : ByteArray), (⟨#[115, 112, 97, 119, 110]⟩ : ByteArray), (⟨#[106, 111, 105, 110]⟩ : ByteArray), (⟨#[114, 101, 116]⟩ : ByteArray), (⟨#[116, 114, 97, 112]⟩ : ByteArray)]) (e := 9) H ([.string (⟨#[112, 117, 115, 104]⟩ : ByteArray)] ++ ([.string (⟨#[108, 111, 97, 100]⟩ : ByteArray)] ++ ([.string (⟨#[115, 116, 111, 114, 101]⟩ : ByteArray)] ++ ([.string (⟨#[97, 100, 100]⟩ : ByteArray)] ++ ([.string (⟨#[115, 117, 98]⟩ : ByteArray)] ++ ([.string (⟨#[109, 117, 108]⟩ : ByteArray)] ++ ([.string (⟨#[100, 105, 118]⟩ : ByteArray)] ++ ([.string (⟨#[99, 111, 110, 106]⟩ : ByteArray)] ++ ([.string (⟨#[100, 117, 112]⟩ : ByteArray)] ++ ([.string (⟨#[100, 114, 111, 112]⟩ : ByteArray)] ++ ([.string (⟨#[106, 117, 109, 112]⟩ : ByteArray)] ++ ([.string (⟨#[122, 101, 114, 111]⟩ : ByteArray)] ++ ([.string (⟨#[114, 97, 110, 100]⟩ : ByteArray)] ++ ([.string (⟨#[115, 112, 97, 119, 110]⟩ : ByteArray)] ++ ([.string (⟨#[106, 111, 105, 110]⟩ : ByteArray)] ++ ([.string (⟨#[114, 101, 116]⟩ : ByteArray)] ++ ([.string (⟨#[116, 114, 97, 112]⟩ : ByteArray)] ++ []))))))))))))))))) kr (Rows.cons (C := [.string (⟨#[112, 117, 115, 104]⟩ : ByteArray)]) (x := (⟨#[112, 117, 115, 104]⟩ : ByteArray)) (by show _ = _; kernel_rfl) (Rows.cons (C := [.string (⟨#[108, 111, 97, 100]⟩ : ByteArray)]) (x := (⟨#[108, 111, 97, 100]⟩ : ByteArray)) (by show _ = _; kernel_rfl) (Rows.cons (C := [.string (⟨#[115, 116, 111, 114, 101]⟩ : ByteArray)]) (x := (⟨#[115, 116, 111, 114, 101]⟩ : ByteArray)) (by show _ = _; kernel_rfl) (Rows.cons (C := [.string (⟨#[97, 100, 100]⟩ : ByteArray)]) (x := (⟨#[97, 100, 100]⟩ : ByteArray)) (by show _ = _; kernel_rfl) (Rows.cons (C := [.string (⟨#[115, 117, 98]⟩ : ByteArray)]) (x := (⟨#[115, 117, 98]⟩ : ByteArray)) (by show _ = _; kernel_rfl) (Rows.cons (C := [.string (⟨#[109, 117, 108]⟩ : ByteArray)]) (x := (⟨#[109, 117, 108]⟩ : ByteArray)) (by show _ = _; kernel_rfl) (Rows.cons (C := [.string (⟨#[100, 105, 118]⟩ : ByteArray)]) (x := (⟨#[100, 105, 118]⟩ : ByteArray)) (by show _ = _; kernel_rfl) (Rows.cons (C := [.string (⟨#[99, 111, 110, 106]⟩ : ByteArray)]) (x := (⟨#[99, 111, 110, 106]⟩ : ByteArray)) (by show _ = _; kernel_rfl) (Rows.cons (C := [.string (⟨#[100, 117, 112]⟩ : ByteArray)]) (x := (⟨#[100, 117, 112]⟩ : ByteArray)) (by show _ = _; kernel_rfl) (Rows.cons (C := [.string (⟨#[100, 114, 111, 112]⟩ : ByteArray)]) (x := (⟨#[100, 114, 111, 112]⟩ : ByteArray)) (by show _ = _; kernel_rfl) (Rows.cons (C := [.string (⟨#[106, 117, 109, 112]⟩ : ByteArray)]) (x := (⟨#[106, 117, 109, 112]⟩ : ByteArray)) (by show _ = _; kernel_rfl) (Rows.cons (C := [.string (⟨#[122, 101, 114, 111]⟩ : ByteArray)]) (x := (⟨#[122, 101, 114, 111]⟩ : ByteArray)) (by show _ = _; kernel_rfl) (Rows.cons (C := [.string (⟨#[114, 97, 110, 100]⟩ : ByteArray)]) (x := (⟨#[114, 97, 110, 100]⟩ : ByteArray)) (by show _ = _; kernel_rfl) (Rows.cons (C := [.string (⟨#[115, 112, 97, 119, 110]⟩ : ByteArray)]) (x := (⟨#[115, 112, 97, 119, 110]⟩ : ByteArray)) (by show _ = _; kernel_rfl) (Rows.cons (C := [.string (⟨#[106, 111, 105, 110]⟩ : ByteArray)]) (x := (⟨#[106, 111, 105, 110]⟩ : ByteArray)) (by show _ = _; kernel_rfl) (Rows.cons (C := [.string (⟨#[114, 101, 116]⟩ : ByteArray)]) (x := (⟨#[114, 101, 116]⟩ : ByteArray)) (by show _ = _; kernel_rfl) (Rows.cons (C := [.string (⟨#[116, 114, 97, 112]⟩ : ByteArray)]) (x := (⟨#[116, 114, 97, 112]⟩ : ByteArray)) (by show _ = _; kernel_rfl) Rows.nil))))))))))))))))) kr kr kr kr fun b2 w H => ?_)
  refine WL.fin 1 kr kr ?_
  obtain rfl := hr
  exact WE.ret ⟨[.slice (some ⟨b2, 0, none⟩) [(⟨#[112, 117, 115, 104]⟩ : ByteArray), (⟨#[108, 111, 97, 100]⟩ : ByteArray), (⟨#[115, 116, 111, 114, 101]⟩ : ByteArray), (⟨#[97, 100, 100]⟩ : ByteArray), (⟨#[115, 117, 98]⟩ : ByteArray), (⟨#[109, 117, 108]⟩ : ByteArray), (⟨#[100, 105, 118]⟩ : ByteArray), (⟨#[99, 111, 110, 106]⟩ : ByteArray), (⟨#[100, 117, 112]⟩ : ByteArray), (⟨#[100, 114, 111, 112]⟩ : ByteArray), (⟨#[106, 117, 109, 112]⟩ : ByteArray), (⟨#[122, 101, 114, 111]⟩ : ByteArray), (⟨#[114, 97, 110, 100]⟩ : ByteArray), (⟨#[115, 112, 97, 119, 110]⟩ : ByteArray), (⟨#[106, 111, 105, 110]⟩ : ByteArray), (⟨#[114, 101, 116]⟩ : ByteArray), (⟨#[116, 114, 97, 112]⟩ : ByteArray)].length 17], ⟨⟨kr, kr⟩, trivial⟩, ⟨h, (some ⟨b2, 0, none⟩), 17, rfl, (Gh.refl _), H⟩⟩
def r06_Find_l1 (K : Nat) (x0 : ByteArray) (y1 : (List ByteArray)) : Nat → Int → Option Int
  | 0, _ => none
  | k1 + 1, y11 =>
    if decide (y11 < (y1.length : Int)) then
      if 0 ≤ y11 ∧ y11 < y1.length then
        if (gd y1 y11).toList == x0.toList then
          some y11
        else
          r06_Find_l1 K x0 y1 k1 (w64 (y11 + 1))
      else none
    else
      some (-1)
def r06_Find (K : Nat) (x0 : ByteArray) : Option Int :=
  bnd r06_names fun y1 =>
  r06_Find_l1 K x0 y1 K 0
set_option maxRecDepth 100000 in
set_option maxHeartbeats 4000000 in
theorem c_r06_Find {w0 w : World} {h : Gh} {L : List Ent} (K : Nat) (x0 : ByteArray) (H : St w0 h w L) {r : Int} (hr : r06_Find K x0 = some r) : Calls Try.prog 84 #[.string x0] w (fun e w' => ∃ v, e = .returned v ∧ v = .int .i64 r ∧ St w0 h w' (L)) := by
  refine calls_of (args := [.string x0]) (n := 19) (rs := [.tmp 2]) Try.func84 rfl rfl rfl rfl rfl ?_
  unfold r06_Find at hr
  refine WE.seq ?_
  refine WE.region ?_
  refine WL.fin 1 kr kr ?_
  refine WE.seq ?_
  refine WE.region ?_
  obtain ⟨y1, q1, hr⟩ := bnd_cases hr
  refine WL.does kr kr (Does.call (c_r06_names H q1) kr ?_)
  rintro _ w ⟨h1, a2, c2, rfl, le1, H⟩
  refine WL.fin 1 kr kr ?_
  refine WE.seq ?_
  refine WE.seq ?_
  refine WE.region ?_
  refine WL.fin 1 kr kr ?_
  refine WE.block ?_
  refine WE.loop (LP.live [0, 3, 4] kr (LP.rec (r06_Find_l1 K x0 y1) (fun (y11 : Int) (_ : Unit) => [(0, .string x0), (3, .slice a2 y1.length c2), (4, .int .i64 y11)]) (fun (y11 : Int) (_ : Unit) => fun w => St w0 h1 w (row Rep.str 16 h1 a2 c2 y1 :: L)) r (fun _ => rfl) ?_ K 0 () _ H hr))
  rintro k1 ih1 y11 _ w H hr
  simp only [r06_Find_l1] at hr
  refine WE.seq ?_
  refine WE.seq ?_
  refine WE.region ?_
  refine WL.fin 4 kr kr ?_
  rcases ite_cases hr with ⟨t12, hr⟩ | ⟨t12, hr⟩
  {
  refine WE.yes kr (b := decide (y11 < (y1.length : Int))) kr t12 ?_
  refine WE.skip ?_
  refine WE.seq ?_
  refine WE.block ?_
  refine WE.seq ?_
  refine WE.region ?_
  obtain ⟨⟨g0_13, g1_13⟩, hr⟩ := grd_cases hr
  obtain ⟨b13, p13, rfl⟩ := H.rowSome 0 rfl g0_13 g1_13
  refine WL.sg 2 kr ?_
  refine WL.does kr kr (Does.tells (.idx b13 (p13) y1.length c2 y11 1 kr kr g0_13 g1_13 kr) ?_)
  refine WL.does kr kr (Does.tells (.loadRow (v := .string (gd y1 y11)) H 0 rfl g0_13 g1_13 0 1 rfl (fun _ e => by rcases e with rfl; kernel_rfl) kr) ?_)
  refine WL.fin 2 kr kr ?_
  rcases ite_cases hr with ⟨t14, hr⟩ | ⟨t14, hr⟩
  {
  refine WE.yes kr (b := (gd y1 y11).toList == x0.toList) kr t14 ?_
  refine WE.seq ?_
  refine WE.region ?_
  refine WL.fin 2 kr kr ?_
  obtain rfl := Option.some.inj hr
  exact WE.ret ⟨[.int .i64 y11], ⟨⟨kr, kr⟩, trivial⟩, ⟨rfl, ((H.keep 1).less le1)⟩⟩
  }
  {
  refine WE.no kr (b := (gd y1 y11).toList == x0.toList) kr t14 ?_
  refine WE.skip ?_
  refine WE.region ?_
  refine WL.fin 3 kr kr ?_
  exact LP.live [0, 3, 4] kr (ih1 (w64 (y11 + 1)) () _ H hr)
  }
  }
  {
  refine WE.no kr (b := decide (y11 < (y1.length : Int))) kr t12 ?_
  refine WE.exit ?_
  refine WE.seq ?_
  refine WE.region ?_
  refine WL.fin 1 kr kr ?_
  obtain rfl := Option.some.inj hr
  exact WE.ret ⟨[.int .i64 (-1)], ⟨⟨kr, kr⟩, trivial⟩, ⟨rfl, ((H.keep 1).less le1)⟩⟩
  }
def r06_Fields (x0 : Int) : Int :=
  if x0 == 0 then
    if x0 == 0 then
      2
    else
      if x0 == 1 then
        if x0 == 1 then
          1
        else
          0
      else
        if x0 == 2 then
          if x0 == 2 then
            1
          else
            0
        else
          if x0 == 10 then
            if x0 == 10 then
              1
            else
              0
          else
            if x0 == 11 then
              if x0 == 11 then
                1
              else
                0
            else
              if x0 == 14 then
                if x0 == 14 then
                  1
                else
                  0
              else
                if x0 == 16 then
                  1
                else
                  0
  else
    if x0 == 13 then
      2
    else
      if x0 == 1 then
        if x0 == 1 then
          1
        else
          0
      else
        if x0 == 2 then
          if x0 == 2 then
            1
          else
            0
        else
          if x0 == 10 then
            if x0 == 10 then
              1
            else
              0
          else
            if x0 == 11 then
              if x0 == 11 then
                1
              else
                0
            else
              if x0 == 14 then
                if x0 == 14 then
                  1
                else
                  0
              else
                if x0 == 16 then
                  1
                else
                  0
set_option maxRecDepth 100000 in
set_option maxHeartbeats 4000000 in
theorem c_r06_Fields {w0 w : World} {h : Gh} {L : List Ent} (x0 : Int) (H : St w0 h w L) {r : Int} (hr : r06_Fields x0 = r) : Calls Try.prog 85 #[.int .i64 x0] w (fun e w' => ∃ v, e = .returned v ∧ v = .int .i64 r ∧ St w0 h w' (L)) := by
  refine calls_of (args := [.int .i64 x0]) (n := 14) (rs := [.tmp 2]) Try.func85 rfl rfl rfl rfl rfl ?_
  unfold r06_Fields at hr
  refine WE.seq ?_
  refine WE.region ?_
  refine WL.fin 1 kr kr ?_
  refine WE.seq ?_
  refine WE.seq ?_
  refine WE.region ?_
  refine WL.fin 1 kr kr ?_
  refine WE.block ?_
  refine WE.seq ?_
  refine WE.seq ?_
  refine WE.region ?_
  refine WL.fin 2 kr kr ?_
  rcases ite_cases hr with ⟨t1, hr⟩ | ⟨t1, hr⟩
  {
  refine WE.yes kr (b := x0 == 0) kr t1 ?_
  refine WE.skip ?_
  rcases ite_cases hr with ⟨t2, hr⟩ | ⟨t2, hr⟩
  {
  refine WE.yes kr (b := x0 == 0) kr t2 ?_
  refine WE.seq ?_
  refine WE.region ?_
  refine WL.fin 1 kr kr ?_
  obtain rfl := hr
  exact WE.ret ⟨[.int .i64 2], ⟨⟨kr, kr⟩, trivial⟩, ⟨rfl, H⟩⟩
  }
  {
  refine WE.no kr (b := x0 == 0) kr t2 ?_
  refine WE.seq ?_
  refine WE.seq ?_
  refine WE.region ?_
  refine WL.fin 2 kr kr ?_
  rcases ite_cases hr with ⟨t3, hr⟩ | ⟨t3, hr⟩
  {
  refine WE.yes kr (b := x0 == 1) kr t3 ?_
  refine WE.skip ?_
  rcases ite_cases hr with ⟨t4, hr⟩ | ⟨t4, hr⟩
  {
  refine WE.yes kr (b := x0 == 1) kr t4 ?_
  refine WE.seq ?_
  refine WE.region ?_
  refine WL.fin 1 kr kr ?_
  obtain rfl := hr
  exact WE.ret ⟨[.int .i64 1], ⟨⟨kr, kr⟩, trivial⟩, ⟨rfl, H⟩⟩
  }
  {
  refine WE.no kr (b := x0 == 1) kr t4 ?_
  refine WE.skip ?_
  refine WE.seq ?_
  refine WE.region ?_
  refine WL.fin 1 kr kr ?_
  obtain rfl := hr
  exact WE.ret ⟨[.int .i64 0], ⟨⟨kr, kr⟩, trivial⟩, ⟨rfl, H⟩⟩
  }
  }
  {
  refine WE.no kr (b := x0 == 1) kr t3 ?_
  refine WE.seq ?_
  refine WE.region ?_
  refine WL.fin 2 kr kr ?_
  rcases ite_cases hr with ⟨t5, hr⟩ | ⟨t5, hr⟩
  {
  refine WE.yes kr (b := x0 == 2) kr t5 ?_
  refine WE.skip ?_
  rcases ite_cases hr with ⟨t6, hr⟩ | ⟨t6, hr⟩
  {
  refine WE.yes kr (b := x0 == 2) kr t6 ?_
  refine WE.seq ?_
  refine WE.region ?_
  refine WL.fin 1 kr kr ?_
  obtain rfl := hr
  exact WE.ret ⟨[.int .i64 1], ⟨⟨kr, kr⟩, trivial⟩, ⟨rfl, H⟩⟩
  }
  {
  refine WE.no kr (b := x0 == 2) kr t6 ?_
  refine WE.skip ?_
  refine WE.seq ?_
  refine WE.region ?_
  refine WL.fin 1 kr kr ?_
  obtain rfl := hr
  exact WE.ret ⟨[.int .i64 0], ⟨⟨kr, kr⟩, trivial⟩, ⟨rfl, H⟩⟩
  }
  }
  {
  refine WE.no kr (b := x0 == 2) kr t5 ?_
  refine WE.seq ?_
  refine WE.region ?_
  refine WL.fin 2 kr kr ?_
  rcases ite_cases hr with ⟨t7, hr⟩ | ⟨t7, hr⟩
  {
  refine WE.yes kr (b := x0 == 10) kr t7 ?_
  refine WE.skip ?_
  rcases ite_cases hr with ⟨t8, hr⟩ | ⟨t8, hr⟩
  {
  refine WE.yes kr (b := x0 == 10) kr t8 ?_
  refine WE.seq ?_
  refine WE.region ?_
  refine WL.fin 1 kr kr ?_
  obtain rfl := hr
  exact WE.ret ⟨[.int .i64 1], ⟨⟨kr, kr⟩, trivial⟩, ⟨rfl, H⟩⟩
  }
  {
  refine WE.no kr (b := x0 == 10) kr t8 ?_
  refine WE.skip ?_
  refine WE.seq ?_
  refine WE.region ?_
  refine WL.fin 1 kr kr ?_
  obtain rfl := hr
  exact WE.ret ⟨[.int .i64 0], ⟨⟨kr, kr⟩, trivial⟩, ⟨rfl, H⟩⟩
  }
  }
  {
  refine WE.no kr (b := x0 == 10) kr t7 ?_
  refine WE.seq ?_
  refine WE.region ?_
  refine WL.fin 2 kr kr ?_
  rcases ite_cases hr with ⟨t9, hr⟩ | ⟨t9, hr⟩
  {
  refine WE.yes kr (b := x0 == 11) kr t9 ?_
  refine WE.skip ?_
  rcases ite_cases hr with ⟨t10, hr⟩ | ⟨t10, hr⟩
  {
  refine WE.yes kr (b := x0 == 11) kr t10 ?_
  refine WE.seq ?_
  refine WE.region ?_
  refine WL.fin 1 kr kr ?_
  obtain rfl := hr
  exact WE.ret ⟨[.int .i64 1], ⟨⟨kr, kr⟩, trivial⟩, ⟨rfl, H⟩⟩
  }
  {
  refine WE.no kr (b := x0 == 11) kr t10 ?_
  refine WE.skip ?_
  refine WE.seq ?_
  refine WE.region ?_
  refine WL.fin 1 kr kr ?_
  obtain rfl := hr
  exact WE.ret ⟨[.int .i64 0], ⟨⟨kr, kr⟩, trivial⟩, ⟨rfl, H⟩⟩
  }
  }
  {
  refine WE.no kr (b := x0 == 11) kr t9 ?_
  refine WE.seq ?_
  refine WE.region ?_
  refine WL.fin 2 kr kr ?_
  rcases ite_cases hr with ⟨t11, hr⟩ | ⟨t11, hr⟩
  {
  refine WE.yes kr (b := x0 == 14) kr t11 ?_
  refine WE.skip ?_
  rcases ite_cases hr with ⟨t12, hr⟩ | ⟨t12, hr⟩
  {
  refine WE.yes kr (b := x0 == 14) kr t12 ?_
  refine WE.seq ?_
  refine WE.region ?_
  refine WL.fin 1 kr kr ?_
  obtain rfl := hr
  exact WE.ret ⟨[.int .i64 1], ⟨⟨kr, kr⟩, trivial⟩, ⟨rfl, H⟩⟩
  }
  {
  refine WE.no kr (b := x0 == 14) kr t12 ?_
  refine WE.skip ?_
  refine WE.seq ?_
  refine WE.region ?_
  refine WL.fin 1 kr kr ?_
  obtain rfl := hr
  exact WE.ret ⟨[.int .i64 0], ⟨⟨kr, kr⟩, trivial⟩, ⟨rfl, H⟩⟩
  }
  }
  {
  refine WE.no kr (b := x0 == 14) kr t11 ?_
  refine WE.region ?_
  refine WL.fin 2 kr kr ?_
  rcases ite_cases hr with ⟨t13, hr⟩ | ⟨t13, hr⟩
  {
  refine WE.yes kr (b := x0 == 16) kr t13 ?_
  refine WE.seq ?_
  refine WE.region ?_
  refine WL.fin 1 kr kr ?_
  obtain rfl := hr
  exact WE.ret ⟨[.int .i64 1], ⟨⟨kr, kr⟩, trivial⟩, ⟨rfl, H⟩⟩
  }
  {
  refine WE.no kr (b := x0 == 16) kr t13 ?_
  refine WE.skip ?_
  refine WE.seq ?_
  refine WE.region ?_
  refine WL.fin 1 kr kr ?_
  obtain rfl := hr
  exact WE.ret ⟨[.int .i64 0], ⟨⟨kr, kr⟩, trivial⟩, ⟨rfl, H⟩⟩
  }
  }
  }
  }
  }
  }
  }
  }
  {
  refine WE.no kr (b := x0 == 0) kr t1 ?_
  refine WE.region ?_
  refine WL.fin 2 kr kr ?_
  rcases ite_cases hr with ⟨t14, hr⟩ | ⟨t14, hr⟩
  {
  refine WE.yes kr (b := x0 == 13) kr t14 ?_
  refine WE.seq ?_
  refine WE.region ?_
  refine WL.fin 1 kr kr ?_
  obtain rfl := hr
  exact WE.ret ⟨[.int .i64 2], ⟨⟨kr, kr⟩, trivial⟩, ⟨rfl, H⟩⟩
  }
  {
  refine WE.no kr (b := x0 == 13) kr t14 ?_
  refine WE.seq ?_
  refine WE.seq ?_
  refine WE.region ?_
  refine WL.fin 2 kr kr ?_
  rcases ite_cases hr with ⟨t15, hr⟩ | ⟨t15, hr⟩
  {
  refine WE.yes kr (b := x0 == 1) kr t15 ?_
  refine WE.skip ?_
  rcases ite_cases hr with ⟨t16, hr⟩ | ⟨t16, hr⟩
  {
  refine WE.yes kr (b := x0 == 1) kr t16 ?_
  refine WE.seq ?_
  refine WE.region ?_
  refine WL.fin 1 kr kr ?_
  obtain rfl := hr
  exact WE.ret ⟨[.int .i64 1], ⟨⟨kr, kr⟩, trivial⟩, ⟨rfl, H⟩⟩
  }
  {
  refine WE.no kr (b := x0 == 1) kr t16 ?_
  refine WE.skip ?_
  refine WE.seq ?_
  refine WE.region ?_
  refine WL.fin 1 kr kr ?_
  obtain rfl := hr
  exact WE.ret ⟨[.int .i64 0], ⟨⟨kr, kr⟩, trivial⟩, ⟨rfl, H⟩⟩
  }
  }
  {
  refine WE.no kr (b := x0 == 1) kr t15 ?_
  refine WE.seq ?_
  refine WE.region ?_
  refine WL.fin 2 kr kr ?_
  rcases ite_cases hr with ⟨t17, hr⟩ | ⟨t17, hr⟩
  {
  refine WE.yes kr (b := x0 == 2) kr t17 ?_
  refine WE.skip ?_
  rcases ite_cases hr with ⟨t18, hr⟩ | ⟨t18, hr⟩
  {
  refine WE.yes kr (b := x0 == 2) kr t18 ?_
  refine WE.seq ?_
  refine WE.region ?_
  refine WL.fin 1 kr kr ?_
  obtain rfl := hr
  exact WE.ret ⟨[.int .i64 1], ⟨⟨kr, kr⟩, trivial⟩, ⟨rfl, H⟩⟩
  }
  {
  refine WE.no kr (b := x0 == 2) kr t18 ?_
  refine WE.skip ?_
  refine WE.seq ?_
  refine WE.region ?_
  refine WL.fin 1 kr kr ?_
  obtain rfl := hr
  exact WE.ret ⟨[.int .i64 0], ⟨⟨kr, kr⟩, trivial⟩, ⟨rfl, H⟩⟩
  }
  }
  {
  refine WE.no kr (b := x0 == 2) kr t17 ?_
  refine WE.seq ?_
  refine WE.region ?_
  refine WL.fin 2 kr kr ?_
  rcases ite_cases hr with ⟨t19, hr⟩ | ⟨t19, hr⟩
  {
  refine WE.yes kr (b := x0 == 10) kr t19 ?_
  refine WE.skip ?_
  rcases ite_cases hr with ⟨t20, hr⟩ | ⟨t20, hr⟩
  {
  refine WE.yes kr (b := x0 == 10) kr t20 ?_
  refine WE.seq ?_
  refine WE.region ?_
  refine WL.fin 1 kr kr ?_
  obtain rfl := hr
  exact WE.ret ⟨[.int .i64 1], ⟨⟨kr, kr⟩, trivial⟩, ⟨rfl, H⟩⟩
  }
  {
  refine WE.no kr (b := x0 == 10) kr t20 ?_
  refine WE.skip ?_
  refine WE.seq ?_
  refine WE.region ?_
  refine WL.fin 1 kr kr ?_
  obtain rfl := hr
  exact WE.ret ⟨[.int .i64 0], ⟨⟨kr, kr⟩, trivial⟩, ⟨rfl, H⟩⟩
  }
  }
  {
  refine WE.no kr (b := x0 == 10) kr t19 ?_
  refine WE.seq ?_
  refine WE.region ?_
  refine WL.fin 2 kr kr ?_
  rcases ite_cases hr with ⟨t21, hr⟩ | ⟨t21, hr⟩
  {
  refine WE.yes kr (b := x0 == 11) kr t21 ?_
  refine WE.skip ?_
  rcases ite_cases hr with ⟨t22, hr⟩ | ⟨t22, hr⟩
  {
  refine WE.yes kr (b := x0 == 11) kr t22 ?_
  refine WE.seq ?_
  refine WE.region ?_
  refine WL.fin 1 kr kr ?_
  obtain rfl := hr
  exact WE.ret ⟨[.int .i64 1], ⟨⟨kr, kr⟩, trivial⟩, ⟨rfl, H⟩⟩
  }
  {
  refine WE.no kr (b := x0 == 11) kr t22 ?_
  refine WE.skip ?_
  refine WE.seq ?_
  refine WE.region ?_
  refine WL.fin 1 kr kr ?_
  obtain rfl := hr
  exact WE.ret ⟨[.int .i64 0], ⟨⟨kr, kr⟩, trivial⟩, ⟨rfl, H⟩⟩
  }
  }
  {
  refine WE.no kr (b := x0 == 11) kr t21 ?_
  refine WE.seq ?_
  refine WE.region ?_
  refine WL.fin 2 kr kr ?_
  rcases ite_cases hr with ⟨t23, hr⟩ | ⟨t23, hr⟩
  {
  refine WE.yes kr (b := x0 == 14) kr t23 ?_
  refine WE.skip ?_
  rcases ite_cases hr with ⟨t24, hr⟩ | ⟨t24, hr⟩
  {
  refine WE.yes kr (b := x0 == 14) kr t24 ?_
  refine WE.seq ?_
  refine WE.region ?_
  refine WL.fin 1 kr kr ?_
  obtain rfl := hr
  exact WE.ret ⟨[.int .i64 1], ⟨⟨kr, kr⟩, trivial⟩, ⟨rfl, H⟩⟩
  }
  {
  refine WE.no kr (b := x0 == 14) kr t24 ?_
  refine WE.skip ?_
  refine WE.seq ?_
  refine WE.region ?_
  refine WL.fin 1 kr kr ?_
  obtain rfl := hr
  exact WE.ret ⟨[.int .i64 0], ⟨⟨kr, kr⟩, trivial⟩, ⟨rfl, H⟩⟩
  }
  }
  {
  refine WE.no kr (b := x0 == 14) kr t23 ?_
  refine WE.region ?_
  refine WL.fin 2 kr kr ?_
  rcases ite_cases hr with ⟨t25, hr⟩ | ⟨t25, hr⟩
  {
  refine WE.yes kr (b := x0 == 16) kr t25 ?_
  refine WE.seq ?_
  refine WE.region ?_
  refine WL.fin 1 kr kr ?_
  obtain rfl := hr
  exact WE.ret ⟨[.int .i64 1], ⟨⟨kr, kr⟩, trivial⟩, ⟨rfl, H⟩⟩
  }
  {
  refine WE.no kr (b := x0 == 16) kr t25 ?_
  refine WE.skip ?_
  refine WE.seq ?_
  refine WE.region ?_
  refine WL.fin 1 kr kr ?_
  obtain rfl := hr
  exact WE.ret ⟨[.int .i64 0], ⟨⟨kr, kr⟩, trivial⟩, ⟨rfl, H⟩⟩
  }
  }
  }
  }
  }
  }
  }
  }
def r06_most (x0 : Int) (x1 : Int) : Int :=
  if x0 == 0 then
    250
  else
    if x0 == 1 then
      if x0 == 1 then
        15
      else
        if x0 == 10 then
          if x0 == 10 then
            199
          else
            if x0 == 13 then
              if x1 == 1 then
                7
              else
                15
            else
              if x0 == 14 then
                7
              else
                255
        else
          if x0 == 11 then
            199
          else
            if x0 == 13 then
              if x1 == 1 then
                7
              else
                15
            else
              if x0 == 14 then
                7
              else
                255
    else
      if x0 == 2 then
        15
      else
        if x0 == 10 then
          if x0 == 10 then
            199
          else
            if x0 == 13 then
              if x1 == 1 then
                7
              else
                15
            else
              if x0 == 14 then
                7
              else
                255
        else
          if x0 == 11 then
            199
          else
            if x0 == 13 then
              if x1 == 1 then
                7
              else
                15
            else
              if x0 == 14 then
                7
              else
                255
set_option maxRecDepth 100000 in
set_option maxHeartbeats 4000000 in
theorem c_r06_most {w0 w : World} {h : Gh} {L : List Ent} (x0 : Int) (x1 : Int) (H : St w0 h w L) {r : Int} (hr : r06_most x0 x1 = r) : Calls Try.prog 86 #[.int .i64 x0, .int .i64 x1] w (fun e w' => ∃ v, e = .returned v ∧ v = .int .i64 r ∧ St w0 h w' (L)) := by
  refine calls_of (args := [.int .i64 x0, .int .i64 x1]) (n := 20) (rs := [.tmp 4]) Try.func86 rfl rfl rfl rfl rfl ?_
  unfold r06_most at hr
  refine WE.seq ?_
  refine WE.region ?_
  refine WL.fin 1 kr kr ?_
  refine WE.seq ?_
  refine WE.seq ?_
  refine WE.region ?_
  refine WL.fin 1 kr kr ?_
  refine WE.block ?_
  refine WE.seq ?_
  refine WE.region ?_
  refine WL.fin 2 kr kr ?_
  rcases ite_cases hr with ⟨t1, hr⟩ | ⟨t1, hr⟩
  {
  refine WE.yes kr (b := x0 == 0) kr t1 ?_
  refine WE.seq ?_
  refine WE.region ?_
  refine WL.fin 1 kr kr ?_
  obtain rfl := hr
  exact WE.ret ⟨[.int .i64 250], ⟨⟨kr, kr⟩, trivial⟩, ⟨rfl, H⟩⟩
  }
  {
  refine WE.no kr (b := x0 == 0) kr t1 ?_
  refine WE.seq ?_
  refine WE.seq ?_
  refine WE.region ?_
  refine WL.fin 2 kr kr ?_
  rcases ite_cases hr with ⟨t2, hr⟩ | ⟨t2, hr⟩
  {
  refine WE.yes kr (b := x0 == 1) kr t2 ?_
  refine WE.skip ?_
  rcases ite_cases hr with ⟨t3, hr⟩ | ⟨t3, hr⟩
  {
  refine WE.yes kr (b := x0 == 1) kr t3 ?_
  refine WE.seq ?_
  refine WE.region ?_
  refine WL.fin 1 kr kr ?_
  obtain rfl := hr
  exact WE.ret ⟨[.int .i64 15], ⟨⟨kr, kr⟩, trivial⟩, ⟨rfl, H⟩⟩
  }
  {
  refine WE.no kr (b := x0 == 1) kr t3 ?_
  refine WE.seq ?_
  refine WE.seq ?_
  refine WE.region ?_
  refine WL.fin 2 kr kr ?_
  rcases ite_cases hr with ⟨t4, hr⟩ | ⟨t4, hr⟩
  {
  refine WE.yes kr (b := x0 == 10) kr t4 ?_
  refine WE.skip ?_
  rcases ite_cases hr with ⟨t5, hr⟩ | ⟨t5, hr⟩
  {
  refine WE.yes kr (b := x0 == 10) kr t5 ?_
  refine WE.seq ?_
  refine WE.region ?_
  refine WL.fin 1 kr kr ?_
  obtain rfl := hr
  exact WE.ret ⟨[.int .i64 199], ⟨⟨kr, kr⟩, trivial⟩, ⟨rfl, H⟩⟩
  }
  {
  refine WE.no kr (b := x0 == 10) kr t5 ?_
  refine WE.seq ?_
  refine WE.region ?_
  refine WL.fin 2 kr kr ?_
  rcases ite_cases hr with ⟨t6, hr⟩ | ⟨t6, hr⟩
  {
  refine WE.yes kr (b := x0 == 13) kr t6 ?_
  refine WE.seq ?_
  refine WE.seq ?_
  refine WE.region ?_
  refine WL.fin 2 kr kr ?_
  rcases ite_cases hr with ⟨t7, hr⟩ | ⟨t7, hr⟩
  {
  refine WE.yes kr (b := x1 == 1) kr t7 ?_
  refine WE.seq ?_
  refine WE.region ?_
  refine WL.fin 1 kr kr ?_
  obtain rfl := hr
  exact WE.ret ⟨[.int .i64 7], ⟨⟨kr, kr⟩, trivial⟩, ⟨rfl, H⟩⟩
  }
  {
  refine WE.no kr (b := x1 == 1) kr t7 ?_
  refine WE.skip ?_
  refine WE.seq ?_
  refine WE.region ?_
  refine WL.fin 1 kr kr ?_
  obtain rfl := hr
  exact WE.ret ⟨[.int .i64 15], ⟨⟨kr, kr⟩, trivial⟩, ⟨rfl, H⟩⟩
  }
  }
  {
  refine WE.no kr (b := x0 == 13) kr t6 ?_
  refine WE.seq ?_
  refine WE.region ?_
  refine WL.fin 2 kr kr ?_
  rcases ite_cases hr with ⟨t8, hr⟩ | ⟨t8, hr⟩
  {
  refine WE.yes kr (b := x0 == 14) kr t8 ?_
  refine WE.seq ?_
  refine WE.region ?_
  refine WL.fin 1 kr kr ?_
  obtain rfl := hr
  exact WE.ret ⟨[.int .i64 7], ⟨⟨kr, kr⟩, trivial⟩, ⟨rfl, H⟩⟩
  }
  {
  refine WE.no kr (b := x0 == 14) kr t8 ?_
  refine WE.skip ?_
  refine WE.seq ?_
  refine WE.region ?_
  refine WL.fin 1 kr kr ?_
  obtain rfl := hr
  exact WE.ret ⟨[.int .i64 255], ⟨⟨kr, kr⟩, trivial⟩, ⟨rfl, H⟩⟩
  }
  }
  }
  }
  {
  refine WE.no kr (b := x0 == 10) kr t4 ?_
  refine WE.region ?_
  refine WL.fin 2 kr kr ?_
  rcases ite_cases hr with ⟨t9, hr⟩ | ⟨t9, hr⟩
  {
  refine WE.yes kr (b := x0 == 11) kr t9 ?_
  refine WE.seq ?_
  refine WE.region ?_
  refine WL.fin 1 kr kr ?_
  obtain rfl := hr
  exact WE.ret ⟨[.int .i64 199], ⟨⟨kr, kr⟩, trivial⟩, ⟨rfl, H⟩⟩
  }
  {
  refine WE.no kr (b := x0 == 11) kr t9 ?_
  refine WE.seq ?_
  refine WE.region ?_
  refine WL.fin 2 kr kr ?_
  rcases ite_cases hr with ⟨t10, hr⟩ | ⟨t10, hr⟩
  {
  refine WE.yes kr (b := x0 == 13) kr t10 ?_
  refine WE.seq ?_
  refine WE.seq ?_
  refine WE.region ?_
  refine WL.fin 2 kr kr ?_
  rcases ite_cases hr with ⟨t11, hr⟩ | ⟨t11, hr⟩
  {
  refine WE.yes kr (b := x1 == 1) kr t11 ?_
  refine WE.seq ?_
  refine WE.region ?_
  refine WL.fin 1 kr kr ?_
  obtain rfl := hr
  exact WE.ret ⟨[.int .i64 7], ⟨⟨kr, kr⟩, trivial⟩, ⟨rfl, H⟩⟩
  }
  {
  refine WE.no kr (b := x1 == 1) kr t11 ?_
  refine WE.skip ?_
  refine WE.seq ?_
  refine WE.region ?_
  refine WL.fin 1 kr kr ?_
  obtain rfl := hr
  exact WE.ret ⟨[.int .i64 15], ⟨⟨kr, kr⟩, trivial⟩, ⟨rfl, H⟩⟩
  }
  }
  {
  refine WE.no kr (b := x0 == 13) kr t10 ?_
  refine WE.seq ?_
  refine WE.region ?_
  refine WL.fin 2 kr kr ?_
  rcases ite_cases hr with ⟨t12, hr⟩ | ⟨t12, hr⟩
  {
  refine WE.yes kr (b := x0 == 14) kr t12 ?_
  refine WE.seq ?_
  refine WE.region ?_
  refine WL.fin 1 kr kr ?_
  obtain rfl := hr
  exact WE.ret ⟨[.int .i64 7], ⟨⟨kr, kr⟩, trivial⟩, ⟨rfl, H⟩⟩
  }
  {
  refine WE.no kr (b := x0 == 14) kr t12 ?_
  refine WE.skip ?_
  refine WE.seq ?_
  refine WE.region ?_
  refine WL.fin 1 kr kr ?_
  obtain rfl := hr
  exact WE.ret ⟨[.int .i64 255], ⟨⟨kr, kr⟩, trivial⟩, ⟨rfl, H⟩⟩
  }
  }
  }
  }
  }
  }
  {
  refine WE.no kr (b := x0 == 1) kr t2 ?_
  refine WE.region ?_
  refine WL.fin 2 kr kr ?_
  rcases ite_cases hr with ⟨t13, hr⟩ | ⟨t13, hr⟩
  {
  refine WE.yes kr (b := x0 == 2) kr t13 ?_
  refine WE.seq ?_
  refine WE.region ?_
  refine WL.fin 1 kr kr ?_
  obtain rfl := hr
  exact WE.ret ⟨[.int .i64 15], ⟨⟨kr, kr⟩, trivial⟩, ⟨rfl, H⟩⟩
  }
  {
  refine WE.no kr (b := x0 == 2) kr t13 ?_
  refine WE.seq ?_
  refine WE.seq ?_
  refine WE.region ?_
  refine WL.fin 2 kr kr ?_
  rcases ite_cases hr with ⟨t14, hr⟩ | ⟨t14, hr⟩
  {
  refine WE.yes kr (b := x0 == 10) kr t14 ?_
  refine WE.skip ?_
  rcases ite_cases hr with ⟨t15, hr⟩ | ⟨t15, hr⟩
  {
  refine WE.yes kr (b := x0 == 10) kr t15 ?_
  refine WE.seq ?_
  refine WE.region ?_
  refine WL.fin 1 kr kr ?_
  obtain rfl := hr
  exact WE.ret ⟨[.int .i64 199], ⟨⟨kr, kr⟩, trivial⟩, ⟨rfl, H⟩⟩
  }
  {
  refine WE.no kr (b := x0 == 10) kr t15 ?_
  refine WE.seq ?_
  refine WE.region ?_
  refine WL.fin 2 kr kr ?_
  rcases ite_cases hr with ⟨t16, hr⟩ | ⟨t16, hr⟩
  {
  refine WE.yes kr (b := x0 == 13) kr t16 ?_
  refine WE.seq ?_
  refine WE.seq ?_
  refine WE.region ?_
  refine WL.fin 2 kr kr ?_
  rcases ite_cases hr with ⟨t17, hr⟩ | ⟨t17, hr⟩
  {
  refine WE.yes kr (b := x1 == 1) kr t17 ?_
  refine WE.seq ?_
  refine WE.region ?_
  refine WL.fin 1 kr kr ?_
  obtain rfl := hr
  exact WE.ret ⟨[.int .i64 7], ⟨⟨kr, kr⟩, trivial⟩, ⟨rfl, H⟩⟩
  }
  {
  refine WE.no kr (b := x1 == 1) kr t17 ?_
  refine WE.skip ?_
  refine WE.seq ?_
  refine WE.region ?_
  refine WL.fin 1 kr kr ?_
  obtain rfl := hr
  exact WE.ret ⟨[.int .i64 15], ⟨⟨kr, kr⟩, trivial⟩, ⟨rfl, H⟩⟩
  }
  }
  {
  refine WE.no kr (b := x0 == 13) kr t16 ?_
  refine WE.seq ?_
  refine WE.region ?_
  refine WL.fin 2 kr kr ?_
  rcases ite_cases hr with ⟨t18, hr⟩ | ⟨t18, hr⟩
  {
  refine WE.yes kr (b := x0 == 14) kr t18 ?_
  refine WE.seq ?_
  refine WE.region ?_
  refine WL.fin 1 kr kr ?_
  obtain rfl := hr
  exact WE.ret ⟨[.int .i64 7], ⟨⟨kr, kr⟩, trivial⟩, ⟨rfl, H⟩⟩
  }
  {
  refine WE.no kr (b := x0 == 14) kr t18 ?_
  refine WE.skip ?_
  refine WE.seq ?_
  refine WE.region ?_
  refine WL.fin 1 kr kr ?_
  obtain rfl := hr
  exact WE.ret ⟨[.int .i64 255], ⟨⟨kr, kr⟩, trivial⟩, ⟨rfl, H⟩⟩
  }
  }
  }
  }
  {
  refine WE.no kr (b := x0 == 10) kr t14 ?_
  refine WE.region ?_
  refine WL.fin 2 kr kr ?_
  rcases ite_cases hr with ⟨t19, hr⟩ | ⟨t19, hr⟩
  {
  refine WE.yes kr (b := x0 == 11) kr t19 ?_
  refine WE.seq ?_
  refine WE.region ?_
  refine WL.fin 1 kr kr ?_
  obtain rfl := hr
  exact WE.ret ⟨[.int .i64 199], ⟨⟨kr, kr⟩, trivial⟩, ⟨rfl, H⟩⟩
  }
  {
  refine WE.no kr (b := x0 == 11) kr t19 ?_
  refine WE.seq ?_
  refine WE.region ?_
  refine WL.fin 2 kr kr ?_
  rcases ite_cases hr with ⟨t20, hr⟩ | ⟨t20, hr⟩
  {
  refine WE.yes kr (b := x0 == 13) kr t20 ?_
  refine WE.seq ?_
  refine WE.seq ?_
  refine WE.region ?_
  refine WL.fin 2 kr kr ?_
  rcases ite_cases hr with ⟨t21, hr⟩ | ⟨t21, hr⟩
  {
  refine WE.yes kr (b := x1 == 1) kr t21 ?_
  refine WE.seq ?_
  refine WE.region ?_
  refine WL.fin 1 kr kr ?_
  obtain rfl := hr
  exact WE.ret ⟨[.int .i64 7], ⟨⟨kr, kr⟩, trivial⟩, ⟨rfl, H⟩⟩
  }
  {
  refine WE.no kr (b := x1 == 1) kr t21 ?_
  refine WE.skip ?_
  refine WE.seq ?_
  refine WE.region ?_
  refine WL.fin 1 kr kr ?_
  obtain rfl := hr
  exact WE.ret ⟨[.int .i64 15], ⟨⟨kr, kr⟩, trivial⟩, ⟨rfl, H⟩⟩
  }
  }
  {
  refine WE.no kr (b := x0 == 13) kr t20 ?_
  refine WE.seq ?_
  refine WE.region ?_
  refine WL.fin 2 kr kr ?_
  rcases ite_cases hr with ⟨t22, hr⟩ | ⟨t22, hr⟩
  {
  refine WE.yes kr (b := x0 == 14) kr t22 ?_
  refine WE.seq ?_
  refine WE.region ?_
  refine WL.fin 1 kr kr ?_
  obtain rfl := hr
  exact WE.ret ⟨[.int .i64 7], ⟨⟨kr, kr⟩, trivial⟩, ⟨rfl, H⟩⟩
  }
  {
  refine WE.no kr (b := x0 == 14) kr t22 ?_
  refine WE.skip ?_
  refine WE.seq ?_
  refine WE.region ?_
  refine WL.fin 1 kr kr ?_
  obtain rfl := hr
  exact WE.ret ⟨[.int .i64 255], ⟨⟨kr, kr⟩, trivial⟩, ⟨rfl, H⟩⟩
  }
  }
  }
  }
  }
  }
  }
def r06_May (x0 : GInstr) : Bool :=
  bnd (r06_Fields x0.Op) fun y2 =>
  bnd (
      if decide (x0.Op < 0) then
        true
      else
        decide (x0.Op > 16)) fun y3 =>
  bnd (
      if y3 then
        true
      else
        decide (x0.A < 0)) fun y4 =>
  bnd (
      if y4 then
        true
      else
        decide (x0.B < 0)) fun y5 =>
  bnd (
      if y5 then
        true
      else
        bnd (
            if decide (y2 < 2) then
              x0.B != 0
            else
              false) fun y21 =>
        y21) fun y6 =>
  bnd (
      if y6 then
        true
      else
        bnd (
            if decide (y2 < 1) then
              x0.A != 0
            else
              false) fun y20 =>
        y20) fun y8 =>
  if y8 then
    false
  else
    bnd (
        if x0.Op == 16 then
          decide (x0.A < 16)
        else
          false) fun y11 =>
    if y11 then
      false
    else
      if decide (y2 < 1) then
        if decide (y2 < 2) then
          true
        else
          bnd (r06_most x0.Op 1) fun y15 =>
          decide (x0.B ≤ y15)
      else
        bnd (r06_most x0.Op 0) fun y16 =>
        if decide (x0.A ≤ y16) then
          if decide (y2 < 2) then
            true
          else
            bnd (r06_most x0.Op 1) fun y19 =>
            decide (x0.B ≤ y19)
        else
          false
set_option maxRecDepth 100000 in
set_option maxHeartbeats 4000000 in
theorem c_r06_May {w0 w : World} {h : Gh} {L : List Ent} (x0 : GInstr) (H : St w0 h w L) {r : Bool} (hr : r06_May x0 = r) : Calls Try.prog 70 #[.agg #[.int .i64 x0.Op, .int .i64 x0.A, .int .i64 x0.B]] w (fun e w' => ∃ v, e = .returned v ∧ v = .bool r ∧ St w0 h w' (L)) := by
  refine calls_of (args := [.agg #[.int .i64 x0.Op, .int .i64 x0.A, .int .i64 x0.B]]) (n := 73) (rs := [.tmp 2]) Try.func70 rfl rfl rfl rfl rfl ?_
  unfold r06_May at hr
  refine WE.seq ?_
  refine WE.region ?_
  refine WL.does kr kr (Does.box H [.int .i64 x0.Op, .int .i64 x0.A, .int .i64 x0.B] kr fun b1 w H => ?_)
  refine WL.fin 1 kr kr ?_
  refine WE.seq ?_
  refine WE.region ?_
  refine WL.sg 1 kr ?_
  refine WL.does kr kr (Does.loadV H 0 rfl 0 kr kr ?_)
  obtain ⟨y2, q2, hr⟩ := bnd_cases hr
  refine WL.does kr kr (Does.call (c_r06_Fields x0.Op H q2) kr ?_)
  rintro _ w ⟨rfl, H⟩
  refine WL.fin 1 kr kr ?_
  refine WE.seq ?_
  refine WE.seq ?_
  refine WE.region ?_
  refine WL.sg 1 kr ?_
  refine WL.does kr kr (Does.loadV H 0 rfl 0 kr kr ?_)
  refine WL.sg 2 kr ?_
  obtain ⟨y3, hy3, hr⟩ := bnd_cases hr
  refine WL.join 4 (fun (_ : Unit) => [(1, .pointer (some ⟨b1, 0, none⟩)), (3, .int .i64 y2), (14, .bool y3)]) (fun (_ : Unit) w => St w0 h w (var b1 [.int .i64 x0.Op, .int .i64 x0.A, .int .i64 x0.B] 71 :: L)) ?_ (fun hk_y3 => ?_)
  {
  rintro _ w H
  refine WL.sg 1 kr ?_
  obtain ⟨y4, hy4, hr⟩ := bnd_cases hr
  refine WL.join 4 (fun (_ : Unit) => [(1, .pointer (some ⟨b1, 0, none⟩)), (3, .int .i64 y2), (19, .bool y4)]) (fun (_ : Unit) w => St w0 h w (var b1 [.int .i64 x0.Op, .int .i64 x0.A, .int .i64 x0.B] 71 :: L)) ?_ (fun hk_y4 => ?_)
  {
  rintro _ w H
  refine WL.sg 1 kr ?_
  obtain ⟨y5, hy5, hr⟩ := bnd_cases hr
  refine WL.join 4 (fun (_ : Unit) => [(1, .pointer (some ⟨b1, 0, none⟩)), (3, .int .i64 y2), (24, .bool y5)]) (fun (_ : Unit) w => St w0 h w (var b1 [.int .i64 x0.Op, .int .i64 x0.A, .int .i64 x0.B] 71 :: L)) ?_ (fun hk_y5 => ?_)
  {
  rintro _ w H
  refine WL.sg 1 kr ?_
  obtain ⟨y6, hy6, hr⟩ := bnd_cases hr
  refine WL.join 8 (fun (_ : Unit) => [(1, .pointer (some ⟨b1, 0, none⟩)), (3, .int .i64 y2), (33, .bool y6)]) (fun (_ : Unit) w => St w0 h w (var b1 [.int .i64 x0.Op, .int .i64 x0.A, .int .i64 x0.B] 71 :: L)) ?_ (fun hk_y6 => ?_)
  {
  rintro _ w H
  refine WL.sg 1 kr ?_
  obtain ⟨y8, hy8, hr⟩ := bnd_cases hr
  refine WL.join 8 (fun (_ : Unit) => [(1, .pointer (some ⟨b1, 0, none⟩)), (3, .int .i64 y2), (42, .bool y8)]) (fun (_ : Unit) w => St w0 h w (var b1 [.int .i64 x0.Op, .int .i64 x0.A, .int .i64 x0.B] 71 :: L)) ?_ (fun hk_y8 => ?_)
  {
  rintro _ w H
  refine WL.fin 0 kr kr ?_
  rcases ite_cases hr with ⟨t10, hr⟩ | ⟨t10, hr⟩
  {
  refine WE.yes kr (b := y8) kr t10 ?_
  refine WE.seq ?_
  refine WE.region ?_
  refine WL.fin 1 kr kr ?_
  obtain rfl := hr
  exact WE.ret ⟨[.bool false], ⟨⟨kr, kr⟩, trivial⟩, ⟨rfl, (H.keep 1)⟩⟩
  }
  {
  refine WE.no kr (b := y8) kr t10 ?_
  refine WE.skip ?_
  refine WE.seq ?_
  refine WE.seq ?_
  refine WE.region ?_
  refine WL.sg 1 kr ?_
  refine WL.does kr kr (Does.loadV H 0 rfl 0 kr kr ?_)
  refine WL.sg 2 kr ?_
  obtain ⟨y11, hy11, hr⟩ := bnd_cases hr
  refine WL.join 4 (fun (_ : Unit) => [(1, .pointer (some ⟨b1, 0, none⟩)), (3, .int .i64 y2), (50, .bool y11)]) (fun (_ : Unit) w => St w0 h w (var b1 [.int .i64 x0.Op, .int .i64 x0.A, .int .i64 x0.B] 71 :: L)) ?_ (fun hk_y11 => ?_)
  {
  rintro _ w H
  refine WL.fin 0 kr kr ?_
  rcases ite_cases hr with ⟨t12, hr⟩ | ⟨t12, hr⟩
  {
  refine WE.yes kr (b := y11) kr t12 ?_
  refine WE.seq ?_
  refine WE.region ?_
  refine WL.fin 1 kr kr ?_
  obtain rfl := hr
  exact WE.ret ⟨[.bool false], ⟨⟨kr, kr⟩, trivial⟩, ⟨rfl, (H.keep 1)⟩⟩
  }
  {
  refine WE.no kr (b := y11) kr t12 ?_
  refine WE.skip ?_
  refine WE.seq ?_
  refine WE.draws mo [1, 3] (ρ' := [(1, .pointer (some ⟨b1, 0, none⟩)), (3, .int .i64 y2)]) kr fun w e1 e2 e3 e4 => ?_
  have H := H.same e1 e2 e3 e4
  clear e1 e2 e3 e4
  refine WD.know [0] kr ?_
  refine WD.know [1] kr ?_
  refine WD.know [2] kr ?_
  rcases ite_cases hr with ⟨t13, hr⟩ | ⟨t13, hr⟩
  {
  refine WD.known 53 t13 kr kr ?_
  refine WD.know [3] kr ?_
  refine WD.know [4] kr ?_
  refine WD.know [5] kr ?_
  refine WD.know [6] kr ?_
  refine WD.skipped 7 kr rfl (Floats.of [6, 5, 4, 3, 1, 0] [2] kr (Floats.pure _ kr kr) (.cons (.tells rfl kr kr (.calmB t13 kr)) .nil)) kr kr ?_
  refine WD.know [8] kr ?_
  refine WD.know [9] kr ?_
  refine WD.know [10] kr ?_
  refine WD.know [11] kr ?_
  refine WD.know [12] kr ?_
  refine WD.know [13] kr ?_
  rcases ite_cases hr with ⟨t14, hr⟩ | ⟨t14, hr⟩
  {
  refine WD.known 64 t14 kr kr ?_
  refine WD.know [14] kr ?_
  refine WD.know [15] kr ?_
  refine WD.know [16] kr ?_
  refine WD.know [17] kr ?_
  refine WD.skipped 18 kr rfl (Floats.of [17, 16, 15, 14, 12, 11, 10, 9, 8, 5, 4, 3, 1, 0] [13] kr (Floats.pure _ kr kr) (.cons (.tells rfl kr kr (.calmB t14 kr)) .nil)) kr kr ?_
  refine WD.know [19] kr ?_
  refine WD.know [20] kr ?_
  refine WD.know [21] kr ?_
  refine WD.does 22 kr rfl (Floats.of [21, 20, 19, 16, 15, 14, 12, 11, 10, 9, 8, 5, 4, 3, 1, 0] [] kr (Floats.pure _ kr kr) .nil) kr kr (Does.reck kr ?_)
  refine WD.fin kr (Floats.of [] [] kr .nil .nil) kr kr ?_
  obtain rfl := hr
  exact WE.ret ⟨[.bool true], ⟨⟨kr, kr⟩, trivial⟩, ⟨rfl, (H.keep 1)⟩⟩
  }
  {
  refine WD.known 64 t14 kr kr ?_
  refine WD.know [14] kr ?_
  refine WD.told 15 66 (.int .i64 x0.B) kr kr ?_
  refine WD.know [16] kr ?_
  refine WD.told 17 68 (.int .i64 x0.Op) kr kr ?_
  obtain ⟨y15, q15, hr⟩ := bnd_cases hr
  refine WD.does 18 kr rfl (Floats.of [16, 14, 12, 11, 10, 9, 8, 5, 4, 3, 1, 0] [17, 15, 13] kr (Floats.pure _ kr kr) (.cons (.tells rfl kr rfl (.loadV H 0 rfl 0 kr kr)) (.cons (.tells rfl kr rfl (.loadV H 0 rfl 2 kr kr)) (.cons (.tells rfl kr kr (.calmB t14 kr)) .nil)))) kr kr (Does.call (c_r06_most x0.Op 1 H q15) kr ?_)
  rintro _ w ⟨rfl, H⟩
  refine WD.know [19] kr ?_
  refine WD.know [20] kr ?_
  refine WD.know [21] kr ?_
  refine WD.does 22 kr rfl (Floats.of [21, 20, 19, 16, 14, 12, 11, 10, 9, 8, 5, 4, 3, 1, 0] [15] kr (Floats.pure _ kr kr) (.cons (.tells rfl kr rfl (.loadV H 0 rfl 2 kr kr)) .nil)) kr kr (Does.reck kr ?_)
  refine WD.fin kr (Floats.of [] [] kr .nil .nil) kr kr ?_
  obtain rfl := hr
  exact WE.ret ⟨[.bool (decide (x0.B ≤ y15))], ⟨⟨kr, kr⟩, trivial⟩, ⟨rfl, (H.keep 1)⟩⟩
  }
  }
  {
  refine WD.known 53 t13 kr kr ?_
  refine WD.know [3] kr ?_
  refine WD.told 4 55 (.int .i64 x0.A) kr kr ?_
  refine WD.know [5] kr ?_
  refine WD.told 6 57 (.int .i64 x0.Op) kr kr ?_
  obtain ⟨y16, q16, hr⟩ := bnd_cases hr
  refine WD.does 7 kr rfl (Floats.of [5, 3, 1, 0] [6, 4, 2] kr (Floats.pure _ kr kr) (.cons (.tells rfl kr rfl (.loadV H 0 rfl 0 kr kr)) (.cons (.tells rfl kr rfl (.loadV H 0 rfl 1 kr kr)) (.cons (.tells rfl kr kr (.calmB t13 kr)) .nil)))) kr kr (Does.call (c_r06_most x0.Op 0 H q16) kr ?_)
  rintro _ w ⟨rfl, H⟩
  refine WD.know [8] kr ?_
  refine WD.know [9] kr ?_
  refine WD.know [10] kr ?_
  rcases ite_cases hr with ⟨t17, hr⟩ | ⟨t17, hr⟩
  {
  refine WD.known 61 t17 kr kr ?_
  refine WD.know [11] kr ?_
  refine WD.know [12] kr ?_
  refine WD.know [13] kr ?_
  rcases ite_cases hr with ⟨t18, hr⟩ | ⟨t18, hr⟩
  {
  refine WD.known 64 t18 kr kr ?_
  refine WD.know [14] kr ?_
  refine WD.know [15] kr ?_
  refine WD.know [16] kr ?_
  refine WD.know [17] kr ?_
  refine WD.skipped 18 kr rfl (Floats.of [17, 16, 15, 14, 12, 11, 9, 8, 5, 3, 1, 0] [13, 10, 4] kr (Floats.pure _ kr kr) (.cons (.tells rfl kr kr (.calmB t18 kr)) (.cons (.tells rfl kr kr (.calmB t17 kr)) (.cons (.tells rfl kr rfl (.loadV H 0 rfl 1 kr kr)) .nil)))) kr kr ?_
  refine WD.know [19] kr ?_
  refine WD.know [20] kr ?_
  refine WD.know [21] kr ?_
  refine WD.does 22 kr rfl (Floats.of [21, 20, 19, 16, 15, 14, 12, 11, 9, 8, 5, 3, 1, 0] [10, 4] kr (Floats.pure _ kr kr) (.cons (.tells rfl kr kr (.calmB t17 kr)) (.cons (.tells rfl kr rfl (.loadV H 0 rfl 1 kr kr)) .nil))) kr kr (Does.reck kr ?_)
  refine WD.fin kr (Floats.of [] [] kr .nil .nil) kr kr ?_
  obtain rfl := hr
  exact WE.ret ⟨[.bool true], ⟨⟨kr, kr⟩, trivial⟩, ⟨rfl, (H.keep 1)⟩⟩
  }
  {
  refine WD.known 64 t18 kr kr ?_
  refine WD.know [14] kr ?_
  refine WD.told 15 66 (.int .i64 x0.B) kr kr ?_
  refine WD.know [16] kr ?_
  refine WD.told 17 68 (.int .i64 x0.Op) kr kr ?_
  obtain ⟨y19, q19, hr⟩ := bnd_cases hr
  refine WD.does 18 kr rfl (Floats.of [16, 14, 12, 11, 9, 8, 5, 3, 1, 0] [17, 15, 13, 10, 4] kr (Floats.pure _ kr kr) (.cons (.tells rfl kr rfl (.loadV H 0 rfl 0 kr kr)) (.cons (.tells rfl kr rfl (.loadV H 0 rfl 2 kr kr)) (.cons (.tells rfl kr kr (.calmB t18 kr)) (.cons (.tells rfl kr kr (.calmB t17 kr)) (.cons (.tells rfl kr rfl (.loadV H 0 rfl 1 kr kr)) .nil)))))) kr kr (Does.call (c_r06_most x0.Op 1 H q19) kr ?_)
  rintro _ w ⟨rfl, H⟩
  refine WD.know [19] kr ?_
  refine WD.know [20] kr ?_
  refine WD.know [21] kr ?_
  refine WD.does 22 kr rfl (Floats.of [21, 20, 19, 16, 14, 12, 11, 9, 8, 5, 3, 1, 0] [15, 10, 4] kr (Floats.pure _ kr kr) (.cons (.tells rfl kr rfl (.loadV H 0 rfl 2 kr kr)) (.cons (.tells rfl kr kr (.calmB t17 kr)) (.cons (.tells rfl kr rfl (.loadV H 0 rfl 1 kr kr)) .nil)))) kr kr (Does.reck kr ?_)
  refine WD.fin kr (Floats.of [] [] kr .nil .nil) kr kr ?_
  obtain rfl := hr
  exact WE.ret ⟨[.bool (decide (x0.B ≤ y19))], ⟨⟨kr, kr⟩, trivial⟩, ⟨rfl, (H.keep 1)⟩⟩
  }
  }
  {
  refine WD.known 61 t17 kr kr ?_
  refine WD.know [11] kr ?_
  refine WD.know [12] kr ?_
  refine WD.know [13] kr ?_
  refine WD.know [14] kr ?_
  refine WD.know [15] kr ?_
  refine WD.know [16] kr ?_
  refine WD.know [17] kr ?_
  refine WD.skipped 18 kr rfl (Floats.of [17, 16, 15, 14, 13, 12, 11, 9, 8, 5, 3, 1, 0] [10, 4] kr (Floats.pure _ kr kr) (.cons (.tells rfl kr kr (.calmB t17 kr)) (.cons (.tells rfl kr rfl (.loadV H 0 rfl 1 kr kr)) .nil))) kr kr ?_
  refine WD.know [19] kr ?_
  refine WD.know [20] kr ?_
  refine WD.know [21] kr ?_
  refine WD.does 22 kr rfl (Floats.of [21, 20, 19, 16, 15, 14, 12, 11, 9, 8, 5, 3, 1, 0] [10, 4] kr (Floats.pure _ kr kr) (.cons (.tells rfl kr kr (.calmB t17 kr)) (.cons (.tells rfl kr rfl (.loadV H 0 rfl 1 kr kr)) .nil))) kr kr (Does.reck kr ?_)
  refine WD.fin kr (Floats.of [] [] kr .nil .nil) kr kr ?_
  obtain rfl := hr
  exact WE.ret ⟨[.bool false], ⟨⟨kr, kr⟩, trivial⟩, ⟨rfl, (H.keep 1)⟩⟩
  }
  }
  }
  }
  rcases ite_cases hy11 with ⟨ty11, hy11⟩ | ⟨ty11, hy11⟩
  {
  refine WL.known 46 ty11 kr kr ?_
  refine WL.sg 1 kr ?_
  refine WL.does kr kr (Does.loadV H 0 rfl 1 kr kr ?_)
  refine WL.sg 2 kr ?_
  obtain rfl := hy11
  exact WL.live [1, 3, 50] kr (hk_y11 () _ H)
  }
  {
  refine WL.known 46 ty11 kr kr ?_
  refine WL.sg 4 kr ?_
  obtain rfl := hy11
  exact WL.live [1, 3, 50] kr (hk_y11 () _ H)
  }
  }
  }
  rcases ite_cases hy8 with ⟨ty8, hy8⟩ | ⟨ty8, hy8⟩
  {
  refine WL.known 34 ty8 kr kr ?_
  refine WL.sg 8 kr ?_
  obtain rfl := hy8
  exact WL.live [1, 3, 42] kr (hk_y8 () _ H)
  }
  {
  refine WL.known 34 ty8 kr kr ?_
  refine WL.sg 3 kr ?_
  obtain ⟨y20, hy20, hy8⟩ := bnd_cases hy8
  refine WL.join 4 (fun (_ : Unit) => [(1, .pointer (some ⟨b1, 0, none⟩)), (3, .int .i64 y2), (34, .bool false), (41, .bool y20)]) (fun (_ : Unit) w => St w0 h w (var b1 [.int .i64 x0.Op, .int .i64 x0.A, .int .i64 x0.B] 71 :: L)) ?_ (fun hk_y20 => ?_)
  {
  rintro _ w H
  refine WL.sg 1 kr ?_
  obtain rfl := hy8
  exact WL.live [1, 3, 42] kr (hk_y8 () _ H)
  }
  rcases ite_cases hy20 with ⟨ty20, hy20⟩ | ⟨ty20, hy20⟩
  {
  refine WL.known 37 ty20 kr kr ?_
  refine WL.sg 1 kr ?_
  refine WL.does kr kr (Does.loadV H 0 rfl 1 kr kr ?_)
  refine WL.sg 2 kr ?_
  obtain rfl := hy20
  exact WL.live [1, 3, 34, 41] kr (hk_y20 () _ H)
  }
  {
  refine WL.known 37 ty20 kr kr ?_
  refine WL.sg 4 kr ?_
  obtain rfl := hy20
  exact WL.live [1, 3, 34, 41] kr (hk_y20 () _ H)
  }
  }
  }
  rcases ite_cases hy6 with ⟨ty6, hy6⟩ | ⟨ty6, hy6⟩
  {
  refine WL.known 25 ty6 kr kr ?_
  refine WL.sg 8 kr ?_
  obtain rfl := hy6
  exact WL.live [1, 3, 33] kr (hk_y6 () _ H)
  }
  {
  refine WL.known 25 ty6 kr kr ?_
  refine WL.sg 3 kr ?_
  obtain ⟨y21, hy21, hy6⟩ := bnd_cases hy6
  refine WL.join 4 (fun (_ : Unit) => [(1, .pointer (some ⟨b1, 0, none⟩)), (3, .int .i64 y2), (25, .bool false), (32, .bool y21)]) (fun (_ : Unit) w => St w0 h w (var b1 [.int .i64 x0.Op, .int .i64 x0.A, .int .i64 x0.B] 71 :: L)) ?_ (fun hk_y21 => ?_)
  {
  rintro _ w H
  refine WL.sg 1 kr ?_
  obtain rfl := hy6
  exact WL.live [1, 3, 33] kr (hk_y6 () _ H)
  }
  rcases ite_cases hy21 with ⟨ty21, hy21⟩ | ⟨ty21, hy21⟩
  {
  refine WL.known 28 ty21 kr kr ?_
  refine WL.sg 1 kr ?_
  refine WL.does kr kr (Does.loadV H 0 rfl 2 kr kr ?_)
  refine WL.sg 2 kr ?_
  obtain rfl := hy21
  exact WL.live [1, 3, 25, 32] kr (hk_y21 () _ H)
  }
  {
  refine WL.known 28 ty21 kr kr ?_
  refine WL.sg 4 kr ?_
  obtain rfl := hy21
  exact WL.live [1, 3, 25, 32] kr (hk_y21 () _ H)
  }
  }
  }
  rcases ite_cases hy5 with ⟨ty5, hy5⟩ | ⟨ty5, hy5⟩
  {
  refine WL.known 20 ty5 kr kr ?_
  refine WL.sg 4 kr ?_
  obtain rfl := hy5
  exact WL.live [1, 3, 24] kr (hk_y5 () _ H)
  }
  {
  refine WL.known 20 ty5 kr kr ?_
  refine WL.sg 1 kr ?_
  refine WL.does kr kr (Does.loadV H 0 rfl 2 kr kr ?_)
  refine WL.sg 2 kr ?_
  obtain rfl := hy5
  exact WL.live [1, 3, 24] kr (hk_y5 () _ H)
  }
  }
  rcases ite_cases hy4 with ⟨ty4, hy4⟩ | ⟨ty4, hy4⟩
  {
  refine WL.known 15 ty4 kr kr ?_
  refine WL.sg 4 kr ?_
  obtain rfl := hy4
  exact WL.live [1, 3, 19] kr (hk_y4 () _ H)
  }
  {
  refine WL.known 15 ty4 kr kr ?_
  refine WL.sg 1 kr ?_
  refine WL.does kr kr (Does.loadV H 0 rfl 1 kr kr ?_)
  refine WL.sg 2 kr ?_
  obtain rfl := hy4
  exact WL.live [1, 3, 19] kr (hk_y4 () _ H)
  }
  }
  rcases ite_cases hy3 with ⟨ty3, hy3⟩ | ⟨ty3, hy3⟩
  {
  refine WL.known 10 ty3 kr kr ?_
  refine WL.sg 4 kr ?_
  obtain rfl := hy3
  exact WL.live [1, 3, 14] kr (hk_y3 () _ H)
  }
  {
  refine WL.known 10 ty3 kr kr ?_
  refine WL.sg 1 kr ?_
  refine WL.does kr kr (Does.loadV H 0 rfl 0 kr kr ?_)
  refine WL.sg 2 kr ?_
  obtain rfl := hy3
  exact WL.live [1, 3, 14] kr (hk_y3 () _ H)
  }
def r07_May_l2 (K : Nat) (x0 : List GFunc) (y85 : Int) (rec_r07_May_l1 : Int → Option Bool) : Nat → Int → Option Bool
  | 0, _ => none
  | k2 + 1, y104 =>
    if 0 ≤ y85 ∧ y85 < x0.length then
      if decide (y104 < (((gd x0 y85).Code).length : Int)) then
        if 0 ≤ y85 ∧ y85 < x0.length then
          if 0 ≤ y104 ∧ y104 < ((gd x0 y85).Code).length then
            bnd (r06_May (⟨(gd ((gd x0 y85).Code) y104).Op, (gd ((gd x0 y85).Code) y104).A, (gd ((gd x0 y85).Code) y104).B⟩ : GInstr)) fun y111 =>
            if !y111 then
              some false
            else
              r07_May_l2 K x0 y85 rec_r07_May_l1 k2 (w64 (y104 + 1))
          else none
        else none
      else
        if 0 ≤ y85 ∧ y85 < x0.length then
          bnd (r07_Head (⟨(gd x0 y85).Arity, (gd x0 y85).Locals, (gd x0 y85).Slots, (gd x0 y85).Code⟩ : GFunc)) fun y115 =>
          (
              if !y115 then
                some true
              else
                if 0 ≤ y85 ∧ y85 < x0.length then
                  some (decide ((((gd x0 y85).Code).length : Int) < 1))
                else none).bind fun y116 =>
          (
              if y116 then
                some true
              else
                if 0 ≤ y85 ∧ y85 < x0.length then
                  some (decide ((((gd x0 y85).Code).length : Int) > 200))
                else none).bind fun y119 =>
          if y119 then
            some false
          else
            rec_r07_May_l1 (w64 (y85 + 1))
        else none
    else none
def r07_May_l1 (K : Nat) (x0 : List GFunc) : Nat → Int → Option Bool
  | 0, _ => none
  | k1 + 1, y85 =>
    if decide (y85 < (x0.length : Int)) then
      r07_May_l2 K x0 y85 (r07_May_l1 K x0 k1) K 0
    else
      bnd (
          if decide ((x0.length : Int) ≥ 1) then
            decide ((x0.length : Int) ≤ 16)
          else
            false) fun y127 =>
      some y127
def r07_May (K : Nat) (x0 : List GFunc) : Option Bool :=
  r07_May_l1 K x0 K 0
set_option maxRecDepth 100000 in
set_option maxHeartbeats 4000000 in
theorem c_r07_May {w0 w : World} {h : Gh} {L : List Ent} (K : Nat) (x0 : List GFunc) {a1 : Option Addr} {c1 : Nat} (f1 : Sl rGFunc 48 h a1 c1 x0) (H : St w0 h w L) {r : Bool} (hr : r07_May K x0 = some r) : Calls Try.prog 42 #[.slice a1 x0.length c1] w (fun e w' => ∃ v, e = .returned v ∧ v = .bool r ∧ St w0 h w' (L)) := by
  refine calls_of (args := [.slice a1 x0.length c1]) (n := 63) (rs := [.tmp 2]) Try.func42 rfl rfl rfl rfl rfl ?_
  unfold r07_May at hr
  refine WE.seq ?_
  refine WE.region ?_
  refine WL.fin 1 kr kr ?_
  refine WE.seq ?_
  refine WE.seq ?_
  refine WE.region ?_
  refine WL.fin 1 kr kr ?_
  refine WE.block ?_
  refine WE.loop (LP.live [0, 3] kr (LP.rec (r07_May_l1 K x0) (fun (y85 : Int) (_ : Unit) => [(0, .slice a1 x0.length c1), (3, .int .i64 y85)]) (fun (y85 : Int) (_ : Unit) => fun w => St w0 h w (L)) r (fun _ => rfl) ?_ K 0 () _ H hr))
  rintro k1 ih1 y85 _ w H hr
  simp only [r07_May_l1] at hr
  refine WE.seq ?_
  refine WE.seq ?_
  refine WE.region ?_
  refine WL.fin 4 kr kr ?_
  rcases ite_cases hr with ⟨t86, hr⟩ | ⟨t86, hr⟩
  {
  refine WE.yes kr (b := decide (y85 < (x0.length : Int))) kr t86 ?_
  refine WE.skip ?_
  refine WE.seq ?_
  refine WE.block ?_
  refine WE.seq ?_
  refine WE.seq ?_
  refine WE.region ?_
  refine WL.fin 1 kr kr ?_
  refine WE.block ?_
  refine WE.loop (LP.live [0, 3, 4] kr (LP.rec (r07_May_l2 K x0 y85 (r07_May_l1 K x0 k1)) (fun (y104 : Int) (_ : Unit) => [(0, .slice a1 x0.length c1), (3, .int .i64 y85), (4, .int .i64 y104)]) (fun (y104 : Int) (_ : Unit) => fun w => St w0 h w (L)) r (fun _ => rfl) ?_ K 0 () _ H hr))
  rintro k2 ih2 y104 _ w H hr
  simp only [r07_May_l2] at hr
  refine WE.seq ?_
  refine WE.seq ?_
  refine WE.region ?_
  obtain ⟨⟨g0_105, g1_105⟩, hr⟩ := grd_cases hr
  obtain ⟨b105, p105, C105, e105, fr105, cs105, rfl, hb105, hc105, ⟨a106, c106, rfl, f106⟩⟩ := f1.at g0_105 g1_105
  refine WL.sg 3 kr ?_
  refine WL.does kr kr (Does.tells (.idx b105 (p105) x0.length c1 y85 4 kr kr g0_105 g1_105 kr) ?_)
  refine WL.sg 1 kr ?_
  refine WL.does kr kr (Does.loadR H hb105 hc105 3 kr kr ?_)
  refine WL.fin 2 kr kr ?_
  rcases ite_cases hr with ⟨t107, hr⟩ | ⟨t107, hr⟩
  {
  refine WE.yes kr (b := decide (y104 < (((gd x0 y85).Code).length : Int))) kr t107 ?_
  refine WE.skip ?_
  refine WE.seq ?_
  refine WE.block ?_
  refine WE.seq ?_
  refine WE.region ?_
  obtain ⟨⟨g0_108, g1_108⟩, hr⟩ := grd_cases hr
  obtain ⟨C108, e108, fr108, cs108, hb108, hc108, ⟨a109, c109, rfl, f109⟩⟩ := f1.at2 g0_108 g1_108
  refine WL.sg 2 kr ?_
  refine WL.does kr kr (Does.tells (.idx b105 (p105) x0.length c1 y85 4 kr kr g0_108 g1_108 kr) ?_)
  refine WL.sg 1 kr ?_
  refine WL.does kr kr (Does.loadR H hb108 hc108 3 kr kr ?_)
  obtain ⟨⟨g0_110, g1_110⟩, hr⟩ := grd_cases hr
  obtain ⟨b110, p110, C110, e110, fr110, cs110, rfl, hb110, hc110, rfl⟩ := f109.at g0_110 g1_110
  refine WL.sg 1 kr ?_
  refine WL.does kr kr (Does.tells (.idx b110 (p110) ((gd x0 y85).Code).length c109 y104 3 kr kr g0_110 g1_110 kr) ?_)
  refine WL.does kr kr (Does.loadR H hb110 hc110 0 kr kr ?_)
  obtain ⟨y111, q111, hr⟩ := bnd_cases hr
  refine WL.does kr kr (Does.call (c_r06_May (⟨(gd ((gd x0 y85).Code) y104).Op, (gd ((gd x0 y85).Code) y104).A, (gd ((gd x0 y85).Code) y104).B⟩ : GInstr) H q111) kr ?_)
  rintro _ w ⟨rfl, H⟩
  refine WL.fin 1 kr kr ?_
  rcases ite_cases hr with ⟨t112, hr⟩ | ⟨t112, hr⟩
  {
  refine WE.yes kr (b := !y111) kr t112 ?_
  refine WE.seq ?_
  refine WE.region ?_
  refine WL.fin 1 kr kr ?_
  obtain rfl := Option.some.inj hr
  exact WE.ret ⟨[.bool false], ⟨⟨kr, kr⟩, trivial⟩, ⟨rfl, H⟩⟩
  }
  {
  refine WE.no kr (b := !y111) kr t112 ?_
  refine WE.skip ?_
  refine WE.region ?_
  refine WL.fin 3 kr kr ?_
  exact LP.live [0, 3, 4] kr (ih2 (w64 (y104 + 1)) () _ H hr)
  }
  }
  {
  refine WE.no kr (b := decide (y104 < (((gd x0 y85).Code).length : Int))) kr t107 ?_
  refine WE.exit ?_
  refine WE.seq ?_
  refine WE.region ?_
  obtain ⟨⟨g0_113, g1_113⟩, hr⟩ := grd_cases hr
  obtain ⟨C113, e113, fr113, cs113, hb113, hc113, ⟨a114, c114, rfl, f114⟩⟩ := f1.at2 g0_113 g1_113
  refine WL.sg 2 kr ?_
  refine WL.does kr kr (Does.tells (.idx b105 (p105) x0.length c1 y85 4 kr kr g0_113 g1_113 kr) ?_)
  refine WL.does kr kr (Does.loadR H hb113 hc113 0 kr kr ?_)
  obtain ⟨y115, q115, hr⟩ := bnd_cases hr
  refine WL.does kr kr (Does.call (c_r07_Head (⟨(gd x0 y85).Arity, (gd x0 y85).Locals, (gd x0 y85).Slots, (gd x0 y85).Code⟩ : GFunc) f114 H q115) kr ?_)
  rintro _ w ⟨rfl, H⟩
  refine WL.sg 2 kr ?_
  obtain ⟨y116, hy116, hr⟩ := bind_cases hr
  refine WL.join 8 (fun (_ : Unit) => [(0, .slice (some ⟨b105, p105, none⟩) x0.length c1), (3, .int .i64 y85), (45, .bool y116)]) (fun (_ : Unit) w => St w0 h w (L)) ?_ (fun hk_y116 => ?_)
  {
  rintro _ w H
  refine WL.sg 1 kr ?_
  obtain ⟨y119, hy119, hr⟩ := bind_cases hr
  refine WL.join 8 (fun (_ : Unit) => [(0, .slice (some ⟨b105, p105, none⟩) x0.length c1), (3, .int .i64 y85), (54, .bool y119)]) (fun (_ : Unit) w => St w0 h w (L)) ?_ (fun hk_y119 => ?_)
  {
  rintro _ w H
  refine WL.fin 0 kr kr ?_
  rcases ite_cases hr with ⟨t122, hr⟩ | ⟨t122, hr⟩
  {
  refine WE.yes kr (b := y119) kr t122 ?_
  refine WE.seq ?_
  refine WE.region ?_
  refine WL.fin 1 kr kr ?_
  obtain rfl := Option.some.inj hr
  exact WE.ret ⟨[.bool false], ⟨⟨kr, kr⟩, trivial⟩, ⟨rfl, H⟩⟩
  }
  {
  refine WE.no kr (b := y119) kr t122 ?_
  refine WE.skip ?_
  refine WE.region ?_
  refine WL.fin 3 kr kr ?_
  exact LP.live [0, 3] kr (ih1 (w64 (y85 + 1)) () _ H hr)
  }
  }
  rcases ite_cases hy119 with ⟨ty119, hy119⟩ | ⟨ty119, hy119⟩
  {
  refine WL.known 46 ty119 kr kr ?_
  refine WL.sg 8 kr ?_
  obtain rfl := Option.some.inj hy119
  exact WL.live [0, 3, 54] kr (hk_y119 () _ H)
  }
  {
  refine WL.known 46 ty119 kr kr ?_
  obtain ⟨⟨g0_123, g1_123⟩, hy119⟩ := grd_cases hy119
  obtain ⟨C123, e123, fr123, cs123, hb123, hc123, ⟨a124, c124, rfl, f124⟩⟩ := f1.at2 g0_123 g1_123
  refine WL.sg 2 kr ?_
  refine WL.does kr kr (Does.tells (.idx b105 (p105) x0.length c1 y85 4 kr kr g0_123 g1_123 kr) ?_)
  refine WL.sg 1 kr ?_
  refine WL.does kr kr (Does.loadR H hb123 hc123 3 kr kr ?_)
  refine WL.sg 3 kr ?_
  obtain rfl := Option.some.inj hy119
  exact WL.live [0, 3, 54] kr (hk_y119 () _ H)
  }
  }
  rcases ite_cases hy116 with ⟨ty116, hy116⟩ | ⟨ty116, hy116⟩
  {
  refine WL.known 37 ty116 kr kr ?_
  refine WL.sg 8 kr ?_
  obtain rfl := Option.some.inj hy116
  exact WL.live [0, 3, 45] kr (hk_y116 () _ H)
  }
  {
  refine WL.known 37 ty116 kr kr ?_
  obtain ⟨⟨g0_125, g1_125⟩, hy116⟩ := grd_cases hy116
  obtain ⟨C125, e125, fr125, cs125, hb125, hc125, ⟨a126, c126, rfl, f126⟩⟩ := f1.at2 g0_125 g1_125
  refine WL.sg 2 kr ?_
  refine WL.does kr kr (Does.tells (.idx b105 (p105) x0.length c1 y85 4 kr kr g0_125 g1_125 kr) ?_)
  refine WL.sg 1 kr ?_
  refine WL.does kr kr (Does.loadR H hb125 hc125 3 kr kr ?_)
  refine WL.sg 3 kr ?_
  obtain rfl := Option.some.inj hy116
  exact WL.live [0, 3, 45] kr (hk_y116 () _ H)
  }
  }
  }
  {
  refine WE.no kr (b := decide (y85 < (x0.length : Int))) kr t86 ?_
  refine WE.exit ?_
  refine WE.seq ?_
  refine WE.region ?_
  refine WL.sg 4 kr ?_
  obtain ⟨y127, hy127, hr⟩ := bnd_cases hr
  refine WL.join 4 (fun (_ : Unit) => [(62, .bool y127)]) (fun (_ : Unit) w => St w0 h w (L)) ?_ (fun hk_y127 => ?_)
  {
  rintro _ w H
  refine WL.fin 1 kr kr ?_
  obtain rfl := Option.some.inj hr
  exact WE.ret ⟨[.bool y127], ⟨⟨kr, kr⟩, trivial⟩, ⟨rfl, H⟩⟩
  }
  rcases ite_cases hy127 with ⟨ty127, hy127⟩ | ⟨ty127, hy127⟩
  {
  refine WL.known 58 ty127 kr kr ?_
  refine WL.sg 4 kr ?_
  obtain rfl := hy127
  exact WL.live [62] kr (hk_y127 () _ H)
  }
  {
  refine WL.known 58 ty127 kr kr ?_
  refine WL.sg 4 kr ?_
  obtain rfl := hy127
  exact WL.live [62] kr (hk_y127 () _ H)
  }
  }
def hGFunc : Rep (GFunc × Option Addr × Nat) := ⟨4, fun _ cs x => cs = cGFunc x.1 x.2.1 x.2.2, fun _ e => e, fun e => by rw [e]; rfl, fun e => by rw [e]; rfl⟩
def r07_lay_l1 (K : Nat) (x0 : List GFunc) (y83 : (List ByteArray)) : Nat → (List Int × Int) → Option ((List GFunc) × Bool)
  | 0, _ => none
  | k1 + 1, (y103, y104) =>
    if decide (y104 < (y83.length : Int)) then
      if 0 ≤ y104 ∧ y104 < y83.length then
        (r07_Number K (gd y83 y104)).bind fun y107 =>
        bnd (
            if decide (y107 < 0) then
              true
            else
              decide (y104 > 3)) fun y108 =>
        if y108 then
          some (x0, false)
        else
          if 0 ≤ (w64 (y104 - 1)) ∧ (w64 (y104 - 1)) < y103.length then
            r07_lay_l1 K x0 y83 k1 ((y103.set (w64 (y104 - 1)).toNat y107), w64 (y104 + 1))
          else none
      else none
    else
      if 0 ≤ (0 : Int) ∧ (0 : Int) < y83.length then
        if (gd y83 (0 : Int)).toList == (⟨#[102, 117, 110, 99]⟩ : ByteArray).toList then
          if 0 ≤ (0 : Int) ∧ (0 : Int) < y103.length then
            if 0 ≤ (1 : Int) ∧ (1 : Int) < y103.length then
              if 0 ≤ (2 : Int) ∧ (2 : Int) < y103.length then
                bnd (
                    if (y83.length : Int) != 4 then
                      true
                    else
                      bnd (r07_Head (⟨(gd y103 (0 : Int)), (gd y103 (1 : Int)), (gd y103 (2 : Int)), []⟩ : GFunc)) fun y139 =>
                      !y139) fun y118 =>
                (
                    if y118 then
                      some true
                    else
                      (
                          if decide ((w64 ((x0.length : Int) - 1)) ≥ 0) then
                            if 0 ≤ (w64 ((x0.length : Int) - 1)) ∧ (w64 ((x0.length : Int) - 1)) < x0.length then
                              some ((((gd x0 (w64 ((x0.length : Int) - 1))).Code).length : Int) == 0)
                            else none
                          else
                            some false).bind fun y132 =>
                      some y132).bind fun y120 =>
                bnd (
                    if y120 then
                      true
                    else
                      (x0.length : Int) == 16) fun y128 =>
                if y128 then
                  some (x0, false)
                else
                  if (x0.length + [(⟨(gd y103 (0 : Int)), (gd y103 (1 : Int)), (gd y103 (2 : Int)), []⟩ : GFunc)].length) * 48 ≤ LIM then
                    some ((x0 ++ [(⟨(gd y103 (0 : Int)), (gd y103 (1 : Int)), (gd y103 (2 : Int)), []⟩ : GFunc)]), true)
                  else none
              else none
            else none
          else none
        else
          if 0 ≤ (0 : Int) ∧ (0 : Int) < y83.length then
            if 0 ≤ (0 : Int) ∧ (0 : Int) < y103.length then
              if 0 ≤ (1 : Int) ∧ (1 : Int) < y103.length then
                (r06_Find K (gd y83 (0 : Int))).bind fun y143 =>
                bnd (r06_May (⟨y143, (gd y103 (0 : Int)), (gd y103 (1 : Int))⟩ : GInstr)) fun y145 =>
                bnd (
                    if !y145 then
                      true
                    else
                      bnd (r06_Fields y143) fun y163 =>
                      (y83.length : Int) != (w64 (1 + y163))) fun y146 =>
                bnd (
                    if y146 then
                      true
                    else
                      decide ((w64 ((x0.length : Int) - 1)) < 0)) fun y148 =>
                if y148 then
                  some (x0, false)
                else
                  if 0 ≤ (w64 ((x0.length : Int) - 1)) ∧ (w64 ((x0.length : Int) - 1)) < x0.length then
                    if (((gd x0 (w64 ((x0.length : Int) - 1))).Code).length : Int) == 200 then
                      some (x0, false)
                    else
                      if 0 ≤ (w64 ((x0.length : Int) - 1)) ∧ (w64 ((x0.length : Int) - 1)) < x0.length then
                        if (((gd x0 (w64 ((x0.length : Int) - 1))).Code).length + [(⟨y143, (gd y103 (0 : Int)), (gd y103 (1 : Int))⟩ : GInstr)].length) * 24 ≤ LIM then
                          if 0 ≤ (w64 ((x0.length : Int) - 1)) ∧ (w64 ((x0.length : Int) - 1)) < x0.length then
                            some ((x0.set (w64 ((x0.length : Int) - 1)).toNat (⟨(gd x0 (w64 ((x0.length : Int) - 1))).Arity, (gd x0 (w64 ((x0.length : Int) - 1))).Locals, (gd x0 (w64 ((x0.length : Int) - 1))).Slots, (((gd x0 (w64 ((x0.length : Int) - 1))).Code) ++ [(⟨y143, (gd y103 (0 : Int)), (gd y103 (1 : Int))⟩ : GInstr)])⟩ : GFunc)), true)
                          else none
                        else none
                      else none
                  else none
              else none
            else none
          else none
      else none
def r07_lay (K : Nat) (x0 : List GFunc) (x1 : ByteArray) : Option ((List GFunc) × Bool) :=
  (r07_Split K x1 32).bind fun y83 =>
  r07_lay_l1 K x0 y83 K ([0, 0, 0], 1)
set_option maxRecDepth 100000 in
set_option maxHeartbeats 4000000 in
theorem c_r07_lay {w0 w : World} {h : Gh} {L : List Ent} (K : Nat) (x0 : List GFunc) {a1 : Option Addr} {c1 : Nat} {la : Option Addr} (x1 : ByteArray) (H : St w0 h w (drow hGFunc rGInstr 48 24 GFunc.Code h a1 c1 la x0 :: L)) {r : (List GFunc) × Bool} (hr : r07_lay K x0 x1 = some r) : Calls Try.prog 68 #[.slice a1 x0.length c1, .string x1] w (fun e w' => ∃ v, e = .returned v ∧ ∃ (h' : Gh) (a901 : Option Addr) (c901 : Nat) (la9 : Option Addr), v = .tuple #[.slice a901 r.1.length c901, .bool r.2] ∧ h.le h' ∧ St w0 h' w' (drow hGFunc rGInstr 48 24 GFunc.Code h' a901 c901 la9 r.1 :: L)) := by
  refine calls_of (args := [.slice a1 x0.length c1, .string x1]) (n := 139) (rs := [.tmp 4, .tmp 5]) Try.func68 rfl rfl rfl rfl rfl ?_
  unfold r07_lay at hr
  refine WE.seq ?_
  refine WE.region ?_
  refine WL.fin 2 kr kr ?_
  refine WE.seq ?_
  refine WE.region ?_
  obtain ⟨y83, q83, hr⟩ := bind_cases hr
  refine WL.sg 1 kr ?_
  refine WL.does kr kr (Does.call (c_r07_Split K x1 32 H q83) kr ?_)
  rintro _ w ⟨h83, a84, c84, rfl, le83, H⟩
  refine WL.fin 1 kr kr ?_
  refine WE.seq ?_
  refine WE.region ?_
  refine WL.does kr kr (Does.lit (K := (Rep.int .i64)) (B := 8) (xs := [0, 0, 0]) (e := 3) H ([.int .i64 0] ++ ([.int .i64 0] ++ ([.int .i64 0] ++ []))) kr (Rows.cons (C := [.int .i64 0]) (x := 0) (by show _ = _; kernel_rfl) (Rows.cons (C := [.int .i64 0]) (x := 0) (by show _ = _; kernel_rfl) (Rows.cons (C := [.int .i64 0]) (x := 0) (by show _ = _; kernel_rfl) Rows.nil))) kr kr kr kr fun b86 w H => ?_)
  refine WL.fin 1 kr kr ?_
  refine WE.seq ?_
  refine WE.seq ?_
  refine WE.region ?_
  refine WL.fin 1 kr kr ?_
  refine WE.block ?_
  refine WE.loop (LP.live [0, 6, 7, 8] kr (LP.rec (r07_lay_l1 K x0 y83) (fun (⟨y103, y104⟩ : List Int × Int) (⟨a103, c103⟩ : Option Addr × Nat) => [(0, .slice a1 x0.length c1), (6, .slice a84 y83.length c84), (7, .slice a103 y103.length c103), (8, .int .i64 y104)]) (fun (⟨y103, y104⟩ : List Int × Int) (⟨a103, c103⟩ : Option Addr × Nat) => fun w => St w0 h83 w (row (Rep.int .i64) 8 h83 a103 c103 y103 :: row Rep.str 16 h83 a84 c84 y83 :: drow hGFunc rGInstr 48 24 GFunc.Code h a1 c1 la x0 :: L)) r (fun _ => rfl) ?_ K ([0, 0, 0], 1) ((some ⟨b86, 0, none⟩), 3) _ H hr))
  rintro k1 ih1 ⟨y103, y104⟩ ⟨a103, c103⟩ w H hr
  simp only [r07_lay_l1] at hr
  refine WE.seq ?_
  refine WE.seq ?_
  refine WE.region ?_
  refine WL.fin 4 kr kr ?_
  rcases ite_cases hr with ⟨t105, hr⟩ | ⟨t105, hr⟩
  {
  refine WE.yes kr (b := decide (y104 < (y83.length : Int))) kr t105 ?_
  refine WE.skip ?_
  refine WE.seq ?_
  refine WE.block ?_
  refine WE.seq ?_
  refine WE.region ?_
  obtain ⟨⟨g0_106, g1_106⟩, hr⟩ := grd_cases hr
  obtain ⟨b106, p106, rfl⟩ := H.rowSome 1 rfl g0_106 g1_106
  refine WL.sg 2 kr ?_
  refine WL.does kr kr (Does.tells (.idx b106 (p106) y83.length c84 y104 1 kr kr g0_106 g1_106 kr) ?_)
  refine WL.does kr kr (Does.tells (.loadRow (v := .string (gd y83 y104)) H 1 rfl g0_106 g1_106 0 1 rfl (fun _ e => by rcases e with rfl; kernel_rfl) kr) ?_)
  obtain ⟨y107, q107, hr⟩ := bind_cases hr
  refine WL.does kr kr (Does.call (c_r07_Number K (gd y83 y104) H q107) kr ?_)
  rintro _ w ⟨rfl, H⟩
  refine WL.fin 1 kr kr ?_
  refine WE.seq ?_
  refine WE.seq ?_
  refine WE.region ?_
  refine WL.sg 3 kr ?_
  obtain ⟨y108, hy108, hr⟩ := bnd_cases hr
  refine WL.join 3 (fun (_ : Unit) => [(0, .slice a1 x0.length c1), (6, .slice (some ⟨b106, p106, none⟩) y83.length c84), (7, .slice a103 y103.length c103), (8, .int .i64 y104), (9, .int .i64 y107), (33, .bool y108)]) (fun (_ : Unit) w => St w0 h83 w (row (Rep.int .i64) 8 h83 a103 c103 y103 :: row Rep.str 16 h83 (some ⟨b106, p106, none⟩) c84 y83 :: drow hGFunc rGInstr 48 24 GFunc.Code h a1 c1 la x0 :: L)) ?_ (fun hk_y108 => ?_)
  {
  rintro _ w H
  refine WL.fin 0 kr kr ?_
  rcases ite_cases hr with ⟨t109, hr⟩ | ⟨t109, hr⟩
  {
  refine WE.yes kr (b := y108) kr t109 ?_
  refine WE.seq ?_
  refine WE.region ?_
  refine WL.fin 3 kr kr ?_
  have H := H.dUp 2 rfl le83
  obtain rfl := Option.some.inj hr
  exact WE.ret ⟨[.slice a1 x0.length c1, .bool false], ⟨⟨kr, kr⟩, ⟨kr, kr⟩, trivial⟩, ⟨h83, a1, c1, la, rfl, le83, (H.keep 2)⟩⟩
  }
  {
  refine WE.no kr (b := y108) kr t109 ?_
  refine WE.skip ?_
  refine WE.region ?_
  obtain ⟨⟨g0_110, g1_110⟩, hr⟩ := grd_cases hr
  obtain ⟨b110, p110, rfl⟩ := H.rowSome 0 rfl g0_110 g1_110
  refine WL.sg 4 kr ?_
  refine WL.does kr kr (Does.tells (.idx b110 (p110) y103.length c103 (w64 (y104 - 1)) 1 kr kr g0_110 g1_110 kr) ?_)
  obtain ⟨C111, e111, _, hb111, hc111, rfl⟩ := H.rowAt2 0 rfl g0_110 g1_110
  refine WL.does kr kr (Does.storeRow H 0 rfl (Gh.refl _) (j := (w64 (y104 - 1)).toNat) (by have h0 := g0_110; have h1 := g1_110; omega) hb111 hc111 0 kr kr (y' := y107) (by show _ = _; kernel_rfl) fun w H => ?_)
  refine WL.spelt 7 (v := .slice (some ⟨b110, p110, none⟩) (y103.set (w64 (y104 - 1)).toNat y107).length c103) kr (Eq.trans (b := .slice (some ⟨b110, p110, none⟩) y103.length c103) kr (sl_len (List.length_set ..).symm)) ?_
  refine WL.fin 0 kr kr ?_
  refine WE.region ?_
  refine WL.fin 3 kr kr ?_
  exact LP.live [0, 6, 7, 8] kr (ih1 ((y103.set (w64 (y104 - 1)).toNat y107), w64 (y104 + 1)) ((some ⟨b110, p110, none⟩), c103) _ H hr)
  }
  }
  rcases ite_cases hy108 with ⟨ty108, hy108⟩ | ⟨ty108, hy108⟩
  {
  refine WL.known 30 ty108 kr kr ?_
  refine WL.sg 3 kr ?_
  obtain rfl := hy108
  exact WL.live [0, 6, 7, 8, 9, 33] kr (hk_y108 () _ H)
  }
  {
  refine WL.known 30 ty108 kr kr ?_
  refine WL.sg 3 kr ?_
  obtain rfl := hy108
  exact WL.live [0, 6, 7, 8, 9, 33] kr (hk_y108 () _ H)
  }
  }
  {
  refine WE.no kr (b := decide (y104 < (y83.length : Int))) kr t105 ?_
  refine WE.exit ?_
  refine WE.seq ?_
  refine WE.region ?_
  refine WL.fin 4 kr kr ?_
  refine WE.seq ?_
  refine WE.seq ?_
  refine WE.region ?_
  obtain ⟨⟨g0_112, g1_112⟩, hr⟩ := grd_cases hr
  obtain ⟨b112, p112, rfl⟩ := H.rowSome 1 rfl g0_112 g1_112
  refine WL.sg 1 kr ?_
  refine WL.does kr kr (Does.tells (.idx b112 (p112) y83.length c84 (0 : Int) 1 kr kr g0_112 g1_112 kr) ?_)
  refine WL.does kr kr (Does.tells (.loadRow (v := .string (gd y83 (0 : Int))) H 1 rfl g0_112 g1_112 0 1 rfl (fun _ e => by rcases e with rfl; kernel_rfl) kr) ?_)
  refine WL.fin 1 kr kr ?_
  rcases ite_cases hr with ⟨t113, hr⟩ | ⟨t113, hr⟩
  {
  refine WE.yes kr (b := (gd y83 (0 : Int)).toList == (⟨#[102, 117, 110, 99]⟩ : ByteArray).toList) kr t113 ?_
  refine WE.seq ?_
  refine WE.draws mo [0, 6, 7, 10] (ρ' := [(0, .slice a1 x0.length c1), (6, .slice (some ⟨b112, p112, none⟩) y83.length c84), (7, .slice a103 y103.length c103), (10, .int .i64 (w64 ((x0.length : Int) - 1)))]) kr fun w e1 e2 e3 e4 => ?_
  have H := H.same e1 e2 e3 e4
  clear e1 e2 e3 e4
  refine WD.know [0] kr ?_
  obtain ⟨⟨g0_114, g1_114⟩, hr⟩ := grd_cases hr
  obtain ⟨b114, p114, rfl⟩ := H.rowSome 0 rfl g0_114 g1_114
  refine WD.told 1 48 (.pointer (some ⟨b114, p114 + (0 : Int).toNat * 1, none⟩)) kr kr ?_
  refine WD.told 2 49 (.int .i64 (gd y103 (0 : Int))) kr kr ?_
  refine WD.know [3] kr ?_
  obtain ⟨⟨g0_115, g1_115⟩, hr⟩ := grd_cases hr
  refine WD.told 4 51 (.pointer (some ⟨b114, p114 + (1 : Int).toNat * 1, none⟩)) kr kr ?_
  refine WD.told 5 52 (.int .i64 (gd y103 (1 : Int))) kr kr ?_
  refine WD.know [6] kr ?_
  obtain ⟨⟨g0_116, g1_116⟩, hr⟩ := grd_cases hr
  refine WD.told 7 54 (.pointer (some ⟨b114, p114 + (2 : Int).toNat * 1, none⟩)) kr kr ?_
  refine WD.told 8 55 (.int .i64 (gd y103 (2 : Int))) kr kr ?_
  refine WD.know [9] kr ?_
  refine WD.does 10 kr rfl (Floats.of [9, 6, 3, 0] [8, 7, 5, 4, 2, 1] kr (Floats.pure _ kr kr) (.cons (.tells rfl kr kr (.loadRow (v := .int .i64 (gd y103 (2 : Int))) H 0 rfl g0_116 g1_116 0 1 rfl (fun _ e => by rcases e with rfl; kernel_rfl) kr)) (.cons (.tells rfl kr kr (.idx b114 (p114) y103.length c103 (2 : Int) 1 kr kr g0_116 g1_116 kr)) (.cons (.tells rfl kr kr (.loadRow (v := .int .i64 (gd y103 (1 : Int))) H 0 rfl g0_115 g1_115 0 1 rfl (fun _ e => by rcases e with rfl; kernel_rfl) kr)) (.cons (.tells rfl kr kr (.idx b114 (p114) y103.length c103 (1 : Int) 1 kr kr g0_115 g1_115 kr)) (.cons (.tells rfl kr kr (.loadRow (v := .int .i64 (gd y103 (0 : Int))) H 0 rfl g0_114 g1_114 0 1 rfl (fun _ e => by rcases e with rfl; kernel_rfl) kr)) (.cons (.tells rfl kr kr (.idx b114 (p114) y103.length c103 (0 : Int) 1 kr kr g0_114 g1_114 kr)) .nil))))))) kr kr (Does.alloc H (cGFunc (⟨0, 0, 0, []⟩ : GFunc) none 0) kr fun b117 w H => ?_)
  refine WD.does 11 kr rfl (Floats.of [9, 6, 3, 0] [8, 7, 5, 4, 2, 1] kr (Floats.pure _ kr kr) (.cons (.tells rfl kr kr (.loadRow (v := .int .i64 (gd y103 (2 : Int))) H 1 rfl g0_116 g1_116 0 1 rfl (fun _ e => by rcases e with rfl; kernel_rfl) kr)) (.cons (.tells rfl kr kr (.idx b114 (p114) y103.length c103 (2 : Int) 1 kr kr g0_116 g1_116 kr)) (.cons (.tells rfl kr kr (.loadRow (v := .int .i64 (gd y103 (1 : Int))) H 1 rfl g0_115 g1_115 0 1 rfl (fun _ e => by rcases e with rfl; kernel_rfl) kr)) (.cons (.tells rfl kr kr (.idx b114 (p114) y103.length c103 (1 : Int) 1 kr kr g0_115 g1_115 kr)) (.cons (.tells rfl kr kr (.loadRow (v := .int .i64 (gd y103 (0 : Int))) H 1 rfl g0_114 g1_114 0 1 rfl (fun _ e => by rcases e with rfl; kernel_rfl) kr)) (.cons (.tells rfl kr kr (.idx b114 (p114) y103.length c103 (0 : Int) 1 kr kr g0_114 g1_114 kr)) .nil))))))) kr kr (Does.storeE H 0 (cGFunc (⟨(gd y103 (0 : Int)), (gd y103 (1 : Int)), (gd y103 (2 : Int)), []⟩ : GFunc) none 0) rfl (q := 0) kr kr kr fun w H => ?_)
  refine WD.fin kr (Floats.of [] [] kr .nil .nil) kr kr ?_
  refine WE.seq ?_
  refine WE.seq ?_
  refine WE.region ?_
  refine WL.sg 4 kr ?_
  obtain ⟨y118, hy118, hr⟩ := bnd_cases hr
  refine WL.join 4 (fun (_ : Unit) => [(0, .slice a1 x0.length c1), (10, .int .i64 (w64 ((x0.length : Int) - 1))), (11, .pointer (some ⟨b117, 0, none⟩)), (64, .bool y118)]) (fun (_ : Unit) w => St w0 h83 w (var b117 (cGFunc (⟨(gd y103 (0 : Int)), (gd y103 (1 : Int)), (gd y103 (2 : Int)), []⟩ : GFunc) none 0) 31 :: drow hGFunc rGInstr 48 24 GFunc.Code h a1 c1 la x0 :: L)) ?_ (fun hk_y118 => ?_)
  {
  rintro _ w H
  refine WL.sg 1 kr ?_
  obtain ⟨y120, hy120, hr⟩ := bind_cases hr
  refine WL.join 12 (fun (_ : Unit) => [(0, .slice a1 x0.length c1), (11, .pointer (some ⟨b117, 0, none⟩)), (77, .bool y120)]) (fun (_ : Unit) w => St w0 h83 w (var b117 (cGFunc (⟨(gd y103 (0 : Int)), (gd y103 (1 : Int)), (gd y103 (2 : Int)), []⟩ : GFunc) none 0) 31 :: drow hGFunc rGInstr 48 24 GFunc.Code h a1 c1 la x0 :: L)) ?_ (fun hk_y120 => ?_)
  {
  rintro _ w H
  refine WL.sg 1 kr ?_
  obtain ⟨y128, hy128, hr⟩ := bnd_cases hr
  refine WL.join 4 (fun (_ : Unit) => [(0, .slice a1 x0.length c1), (11, .pointer (some ⟨b117, 0, none⟩)), (82, .bool y128)]) (fun (_ : Unit) w => St w0 h83 w (var b117 (cGFunc (⟨(gd y103 (0 : Int)), (gd y103 (1 : Int)), (gd y103 (2 : Int)), []⟩ : GFunc) none 0) 31 :: drow hGFunc rGInstr 48 24 GFunc.Code h a1 c1 la x0 :: L)) ?_ (fun hk_y128 => ?_)
  {
  rintro _ w H
  refine WL.fin 0 kr kr ?_
  rcases ite_cases hr with ⟨t129, hr⟩ | ⟨t129, hr⟩
  {
  refine WE.yes kr (b := y128) kr t129 ?_
  refine WE.seq ?_
  refine WE.region ?_
  refine WL.fin 3 kr kr ?_
  have H := H.dUp 1 rfl le83
  obtain rfl := Option.some.inj hr
  exact WE.ret ⟨[.slice a1 x0.length c1, .bool false], ⟨⟨kr, kr⟩, ⟨kr, kr⟩, trivial⟩, ⟨h83, a1, c1, la, rfl, le83, (H.keep 1)⟩⟩
  }
  {
  refine WE.no kr (b := y128) kr t129 ?_
  refine WE.skip ?_
  refine WE.seq ?_
  refine WE.region ?_
  refine WL.sg 1 kr ?_
  refine WL.does kr kr (Does.loadV H 0 rfl 0 kr kr ?_)
  refine WL.does kr kr (Does.lit (K := hGFunc) (B := 48) (xs := [((⟨(gd y103 (0 : Int)), (gd y103 (1 : Int)), (gd y103 (2 : Int)), []⟩ : GFunc), none, 0)]) (e := 31) H ((cGFunc (⟨(gd y103 (0 : Int)), (gd y103 (1 : Int)), (gd y103 (2 : Int)), []⟩ : GFunc) none 0) ++ []) kr (Rows.cons (C := cGFunc (⟨(gd y103 (0 : Int)), (gd y103 (1 : Int)), (gd y103 (2 : Int)), []⟩ : GFunc) none 0) (x := ((⟨(gd y103 (0 : Int)), (gd y103 (1 : Int)), (gd y103 (2 : Int)), []⟩ : GFunc), none, 0)) (by show _ = _; kernel_rfl) Rows.nil) kr kr kr kr fun b130 w H => ?_)
  obtain ⟨g131, hr⟩ := grd_cases hr
  obtain ⟨hs, lc, cl, ehs, hd, H⟩ := (H.front 2 rfl).unpack
  obtain ⟨h9, le9, s9, H⟩ := (H.front 1 rfl).rowFreeze le83
  have hall := (hd.up (le83.trans le9)).all s9
  refine WL.spelt 84 (v := .slice a1 hs.length c1) (by kernel_rfl) (Eq.trans (b := .slice a1 x0.length c1) (by kernel_rfl) (sl_len (by rw [← ehs, List.length_map]))) ?_
  refine WL.does kr kr (Does.append (t := 23) (xt := 23) (ty := 23) (e := 31) (e2 := 31) (z := .agg (cGFunc (⟨0, 0, 0, []⟩ : GFunc) none 0).toArray) H 0 rfl (le83.trans le9) (ys := [((⟨(gd y103 (0 : Int)), (gd y103 (1 : Int)), (gd y103 (2 : Int)), []⟩ : GFunc), none, 0)]) (c2 := 1) (H.rowSrc 1 rfl le9) (by rw [← ehs] at g131; simpa using g131) kr kr kr kr fun a131 c131 w H => ?_)
  refine WL.fin 2 kr kr ?_
  obtain rfl := Option.some.inj hr
  have H := ((H.rowNil rGInstr 24).front 1 rfl).pack (xs := x0 ++ [(⟨(gd y103 (0 : Int)), (gd y103 (1 : Int)), (gd y103 (2 : Int)), []⟩ : GFunc)]) (hs := hs ++ [((⟨(gd y103 (0 : Int)), (gd y103 (1 : Int)), (gd y103 (2 : Int)), []⟩ : GFunc), none, 0)]) (lc := 0) (Heads.snoc hall (⟨(gd y103 (0 : Int)), (gd y103 (1 : Int)), (gd y103 (2 : Int)), []⟩ : GFunc) none 0) (by simp [ehs])
  have el9 : List.length (hs ++ [(((⟨(gd y103 (0 : Int)), (gd y103 (1 : Int)), (gd y103 (2 : Int)), []⟩ : GFunc) : GFunc), (none : Option Addr), (0 : Nat))]) = List.length (x0 ++ [(⟨(gd y103 (0 : Int)), (gd y103 (1 : Int)), (gd y103 (2 : Int)), []⟩ : GFunc)]) := by simp [← ehs]
  exact WE.ret ⟨[.slice a131 (hs ++ [((⟨(gd y103 (0 : Int)), (gd y103 (1 : Int)), (gd y103 (2 : Int)), []⟩ : GFunc), none, 0)]).length c131, .bool true], ⟨⟨(by kernel_rfl), (by kernel_rfl)⟩, ⟨(by kernel_rfl), (by kernel_rfl)⟩, trivial⟩, ⟨h9, a131, c131, none, (congrArg (fun n => Value.tuple #[.slice a131 n c131, .bool true]) el9), le83.trans le9, (H.mid 1 2)⟩⟩
  }
  }
  rcases ite_cases hy128 with ⟨ty128, hy128⟩ | ⟨ty128, hy128⟩
  {
  refine WL.known 78 ty128 kr kr ?_
  refine WL.sg 4 kr ?_
  obtain rfl := hy128
  exact WL.live [0, 11, 82] kr (hk_y128 () _ H)
  }
  {
  refine WL.known 78 ty128 kr kr ?_
  refine WL.sg 4 kr ?_
  obtain rfl := hy128
  exact WL.live [0, 11, 82] kr (hk_y128 () _ H)
  }
  }
  rcases ite_cases hy120 with ⟨ty120, hy120⟩ | ⟨ty120, hy120⟩
  {
  refine WL.known 65 ty120 kr kr ?_
  refine WL.sg 12 kr ?_
  obtain rfl := Option.some.inj hy120
  exact WL.live [0, 11, 77] kr (hk_y120 () _ H)
  }
  {
  refine WL.known 65 ty120 kr kr ?_
  refine WL.sg 3 kr ?_
  obtain ⟨y132, hy132, hy120⟩ := bind_cases hy120
  refine WL.join 8 (fun (_ : Unit) => [(0, .slice a1 x0.length c1), (11, .pointer (some ⟨b117, 0, none⟩)), (65, .bool false), (76, .bool y132)]) (fun (_ : Unit) w => St w0 h83 w (var b117 (cGFunc (⟨(gd y103 (0 : Int)), (gd y103 (1 : Int)), (gd y103 (2 : Int)), []⟩ : GFunc) none 0) 31 :: drow hGFunc rGInstr 48 24 GFunc.Code h a1 c1 la x0 :: L)) ?_ (fun hk_y132 => ?_)
  {
  rintro _ w H
  refine WL.sg 1 kr ?_
  obtain rfl := Option.some.inj hy120
  exact WL.live [0, 11, 77] kr (hk_y120 () _ H)
  }
  rcases ite_cases hy132 with ⟨ty132, hy132⟩ | ⟨ty132, hy132⟩
  {
  refine WL.known 68 ty132 kr kr ?_
  obtain ⟨⟨g0_136, g1_136⟩, hy132⟩ := grd_cases hy132
  obtain ⟨b136, p136, rfl⟩ := H.dSome 1 rfl g0_136 g1_136
  refine WL.sg 2 kr ?_
  refine WL.does kr kr (Does.tells (.idx b136 (p136) x0.length c1 (w64 ((x0.length : Int) - 1)) 4 kr kr g0_136 g1_136 kr) ?_)
  refine WL.sg 1 kr ?_
  obtain ⟨C138, e138, _, hb138, hc138, a137, c137, rfl⟩ := H.dAt 1 rfl g0_136 g1_136
  refine WL.does kr kr (Does.tells (.load (v := .slice a137 ((gd x0 (w64 ((x0.length : Int) - 1))).Code).length c137) hb138 hc138 kr (j := 3) rfl kr) ?_)
  refine WL.sg 3 kr ?_
  obtain rfl := Option.some.inj hy132
  exact WL.live [0, 11, 65, 76] kr (hk_y132 () _ H)
  }
  {
  refine WL.known 68 ty132 kr kr ?_
  refine WL.sg 8 kr ?_
  obtain rfl := Option.some.inj hy132
  exact WL.live [0, 11, 65, 76] kr (hk_y132 () _ H)
  }
  }
  }
  rcases ite_cases hy118 with ⟨ty118, hy118⟩ | ⟨ty118, hy118⟩
  {
  refine WL.known 60 ty118 kr kr ?_
  refine WL.sg 4 kr ?_
  obtain rfl := hy118
  exact WL.live [0, 10, 11, 64] kr (hk_y118 () _ (((H.front 3 rfl).front 1 rfl).mid 2 2))
  }
  {
  refine WL.known 60 ty118 kr kr ?_
  refine WL.does kr kr (Does.loadV H 0 rfl 0 kr kr ?_)
  obtain ⟨y139, q139, hy118⟩ := bnd_cases hy118
  refine WL.does kr kr (Does.call (c_r07_Head (⟨(gd y103 (0 : Int)), (gd y103 (1 : Int)), (gd y103 (2 : Int)), []⟩ : GFunc) (Sl.nil none 0 (Nat.zero_le _)) H q139) kr ?_)
  rintro _ w ⟨rfl, H⟩
  refine WL.sg 2 kr ?_
  obtain rfl := hy118
  exact WL.live [0, 10, 11, 64] kr (hk_y118 () _ (((H.front 3 rfl).front 1 rfl).mid 2 2))
  }
  }
  {
  refine WE.no kr (b := (gd y83 (0 : Int)).toList == (⟨#[102, 117, 110, 99]⟩ : ByteArray).toList) kr t113 ?_
  refine WE.skip ?_
  refine WE.seq ?_
  refine WE.draws mo [0, 6, 7, 10] (ρ' := [(0, .slice a1 x0.length c1), (6, .slice (some ⟨b112, p112, none⟩) y83.length c84), (7, .slice a103 y103.length c103), (10, .int .i64 (w64 ((x0.length : Int) - 1)))]) kr fun w e1 e2 e3 e4 => ?_
  have H := H.same e1 e2 e3 e4
  clear e1 e2 e3 e4
  refine WD.know [0] kr ?_
  obtain ⟨⟨g0_140, g1_140⟩, hr⟩ := grd_cases hr
  refine WD.told 1 89 (.pointer (some ⟨b112, p112 + (0 : Int).toNat * 1, none⟩)) kr kr ?_
  refine WD.told 2 90 (.string (gd y83 (0 : Int))) kr kr ?_
  refine WD.know [4] kr ?_
  obtain ⟨⟨g0_141, g1_141⟩, hr⟩ := grd_cases hr
  obtain ⟨b141, p141, rfl⟩ := H.rowSome 0 rfl g0_141 g1_141
  refine WD.told 5 93 (.pointer (some ⟨b141, p141 + (0 : Int).toNat * 1, none⟩)) kr kr ?_
  refine WD.told 6 94 (.int .i64 (gd y103 (0 : Int))) kr kr ?_
  refine WD.know [7] kr ?_
  obtain ⟨⟨g0_142, g1_142⟩, hr⟩ := grd_cases hr
  refine WD.told 8 96 (.pointer (some ⟨b141, p141 + (1 : Int).toNat * 1, none⟩)) kr kr ?_
  refine WD.told 9 97 (.int .i64 (gd y103 (1 : Int))) kr kr ?_
  obtain ⟨y143, q143, hr⟩ := bind_cases hr
  refine WD.among 3 [11] kr (Floats.of [7, 4, 0] [9, 8, 6, 5, 2, 1] kr (Floats.pure _ kr kr) (.cons (.tells rfl kr kr (.loadRow (v := .int .i64 (gd y103 (1 : Int))) H 0 rfl g0_142 g1_142 0 1 rfl (fun _ e => by rcases e with rfl; kernel_rfl) kr)) (.cons (.tells rfl kr kr (.idx b141 (p141) y103.length c103 (1 : Int) 1 kr kr g0_142 g1_142 kr)) (.cons (.tells rfl kr kr (.loadRow (v := .int .i64 (gd y103 (0 : Int))) H 0 rfl g0_141 g1_141 0 1 rfl (fun _ e => by rcases e with rfl; kernel_rfl) kr)) (.cons (.tells rfl kr kr (.idx b141 (p141) y103.length c103 (0 : Int) 1 kr kr g0_141 g1_141 kr)) (.cons (.tells rfl kr kr (.loadRow (v := .string (gd y83 (0 : Int))) H 1 rfl g0_140 g1_140 0 1 rfl (fun _ e => by rcases e with rfl; kernel_rfl) kr)) (.cons (.tells rfl kr kr (.idx b112 (p112) y83.length c84 (0 : Int) 1 kr kr g0_140 g1_140 kr)) .nil))))))) ⟨?_, ?_, trivial⟩
  {
  refine WT.does 3 kr rfl kr kr (Does.call (c_r06_Find K (gd y83 (0 : Int)) H q143) kr ?_)
  rintro _ w ⟨rfl, H⟩
  refine WD.know [10] kr ?_
  refine WD.does 11 kr rfl (Floats.of [10, 7, 4, 0] [9, 8, 6, 5, 1] kr (Floats.pure _ kr kr) (.cons (.tells rfl kr kr (.loadRow (v := .int .i64 (gd y103 (1 : Int))) H 0 rfl g0_142 g1_142 0 1 rfl (fun _ e => by rcases e with rfl; kernel_rfl) kr)) (.cons (.tells rfl kr kr (.idx b141 (p141) y103.length c103 (1 : Int) 1 kr kr g0_142 g1_142 kr)) (.cons (.tells rfl kr kr (.loadRow (v := .int .i64 (gd y103 (0 : Int))) H 0 rfl g0_141 g1_141 0 1 rfl (fun _ e => by rcases e with rfl; kernel_rfl) kr)) (.cons (.tells rfl kr kr (.idx b141 (p141) y103.length c103 (0 : Int) 1 kr kr g0_141 g1_141 kr)) (.cons (.tells rfl kr kr (.idx b112 (p112) y83.length c84 (0 : Int) 1 kr kr g0_140 g1_140 kr)) .nil)))))) kr kr (Does.alloc H [.int .i64 0, .int .i64 0, .int .i64 0] kr fun b144 w H => ?_)
  refine WD.does 12 kr rfl (Floats.of [10, 7, 4, 0] [9, 8, 6, 5, 1] kr (Floats.pure _ kr kr) (.cons (.tells rfl kr kr (.loadRow (v := .int .i64 (gd y103 (1 : Int))) H 1 rfl g0_142 g1_142 0 1 rfl (fun _ e => by rcases e with rfl; kernel_rfl) kr)) (.cons (.tells rfl kr kr (.idx b141 (p141) y103.length c103 (1 : Int) 1 kr kr g0_142 g1_142 kr)) (.cons (.tells rfl kr kr (.loadRow (v := .int .i64 (gd y103 (0 : Int))) H 1 rfl g0_141 g1_141 0 1 rfl (fun _ e => by rcases e with rfl; kernel_rfl) kr)) (.cons (.tells rfl kr kr (.idx b141 (p141) y103.length c103 (0 : Int) 1 kr kr g0_141 g1_141 kr)) (.cons (.tells rfl kr kr (.idx b112 (p112) y83.length c84 (0 : Int) 1 kr kr g0_140 g1_140 kr)) .nil)))))) kr kr (Does.storeE H 0 [.int .i64 y143, .int .i64 (gd y103 (0 : Int)), .int .i64 (gd y103 (1 : Int))] rfl (q := 0) kr kr kr fun w H => ?_)
  refine WD.fin kr (Floats.of [] [] kr .nil .nil) kr kr ?_
  refine WE.seq ?_
  refine WE.seq ?_
  refine WE.region ?_
  refine WL.does kr kr (Does.loadV H 0 rfl 0 kr kr ?_)
  obtain ⟨y145, q145, hr⟩ := bnd_cases hr
  refine WL.does kr kr (Does.call (c_r06_May (⟨y143, (gd y103 (0 : Int)), (gd y103 (1 : Int))⟩ : GInstr) H q145) kr ?_)
  rintro _ w ⟨rfl, H⟩
  refine WL.sg 2 kr ?_
  obtain ⟨y146, hy146, hr⟩ := bnd_cases hr
  refine WL.join 8 (fun (_ : Unit) => [(0, .slice a1 x0.length c1), (10, .int .i64 (w64 ((x0.length : Int) - 1))), (12, .pointer (some ⟨b144, 0, none⟩)), (110, .bool y146)]) (fun (_ : Unit) w => St w0 h83 w (var b144 [.int .i64 y143, .int .i64 (gd y103 (0 : Int)), .int .i64 (gd y103 (1 : Int))] 71 :: drow hGFunc rGInstr 48 24 GFunc.Code h a1 c1 la x0 :: L)) ?_ (fun hk_y146 => ?_)
  {
  rintro _ w H
  refine WL.sg 1 kr ?_
  obtain ⟨y148, hy148, hr⟩ := bnd_cases hr
  refine WL.join 3 (fun (_ : Unit) => [(0, .slice a1 x0.length c1), (10, .int .i64 (w64 ((x0.length : Int) - 1))), (12, .pointer (some ⟨b144, 0, none⟩)), (114, .bool y148)]) (fun (_ : Unit) w => St w0 h83 w (var b144 [.int .i64 y143, .int .i64 (gd y103 (0 : Int)), .int .i64 (gd y103 (1 : Int))] 71 :: drow hGFunc rGInstr 48 24 GFunc.Code h a1 c1 la x0 :: L)) ?_ (fun hk_y148 => ?_)
  {
  rintro _ w H
  refine WL.fin 0 kr kr ?_
  rcases ite_cases hr with ⟨t149, hr⟩ | ⟨t149, hr⟩
  {
  refine WE.yes kr (b := y148) kr t149 ?_
  refine WE.seq ?_
  refine WE.region ?_
  refine WL.fin 3 kr kr ?_
  have H := H.dUp 1 rfl le83
  obtain rfl := Option.some.inj hr
  exact WE.ret ⟨[.slice a1 x0.length c1, .bool false], ⟨⟨kr, kr⟩, ⟨kr, kr⟩, trivial⟩, ⟨h83, a1, c1, la, rfl, le83, (H.keep 1)⟩⟩
  }
  {
  refine WE.no kr (b := y148) kr t149 ?_
  refine WE.skip ?_
  refine WE.seq ?_
  refine WE.seq ?_
  refine WE.region ?_
  obtain ⟨⟨g0_150, g1_150⟩, hr⟩ := grd_cases hr
  obtain ⟨b150, p150, rfl⟩ := H.dSome 1 rfl g0_150 g1_150
  refine WL.sg 2 kr ?_
  refine WL.does kr kr (Does.tells (.idx b150 (p150) x0.length c1 (w64 ((x0.length : Int) - 1)) 4 kr kr g0_150 g1_150 kr) ?_)
  refine WL.sg 1 kr ?_
  obtain ⟨C152, e152, _, hb152, hc152, a151, c151, rfl⟩ := H.dAt 1 rfl g0_150 g1_150
  refine WL.does kr kr (Does.tells (.load (v := .slice a151 ((gd x0 (w64 ((x0.length : Int) - 1))).Code).length c151) hb152 hc152 kr (j := 3) rfl kr) ?_)
  refine WL.fin 2 kr kr ?_
  rcases ite_cases hr with ⟨t153, hr⟩ | ⟨t153, hr⟩
  {
  refine WE.yes kr (b := (((gd x0 (w64 ((x0.length : Int) - 1))).Code).length : Int) == 200) kr t153 ?_
  refine WE.seq ?_
  refine WE.region ?_
  refine WL.fin 3 kr kr ?_
  have H := H.dUp 1 rfl le83
  obtain rfl := Option.some.inj hr
  exact WE.ret ⟨[.slice (some ⟨b150, p150, none⟩) x0.length c1, .bool false], ⟨⟨kr, kr⟩, ⟨kr, kr⟩, trivial⟩, ⟨h83, (some ⟨b150, p150, none⟩), c1, la, rfl, le83, (H.keep 1)⟩⟩
  }
  {
  refine WE.no kr (b := (((gd x0 (w64 ((x0.length : Int) - 1))).Code).length : Int) == 200) kr t153 ?_
  refine WE.skip ?_
  refine WE.seq ?_
  refine WE.region ?_
  obtain ⟨⟨g0_154, g1_154⟩, hr⟩ := grd_cases hr
  refine WL.sg 2 kr ?_
  refine WL.does kr kr (Does.tells (.idx b150 (p150) x0.length c1 (w64 ((x0.length : Int) - 1)) 4 kr kr g0_154 g1_154 kr) ?_)
  have H := H.front 1 rfl
  have hz1 : (w64 ((x0.length : Int) - 1)) + 1 = x0.length := last_at (H.dLen 0 rfl) g0_154 g1_154
  obtain ⟨init, lc, hxs, hin, hil, H⟩ := H.dLast g0_154 hz1
  have hlt : (w64 ((x0.length : Int) - 1)) < ((init ++ [(gd x0 (w64 ((x0.length : Int) - 1)), la, lc)]).length : Int) := by have := g0_154; simp only [List.length_append, List.length_cons, List.length_nil]; omega
  have hgd : gd (init ++ [(gd x0 (w64 ((x0.length : Int) - 1)), la, lc)]) (w64 ((x0.length : Int) - 1)) = (gd x0 (w64 ((x0.length : Int) - 1)), la, lc) := gd_last hil g0_154
  obtain ⟨C156, e156, cs156, hb156, hc156, r156⟩ := H.rowAt2 0 rfl g0_154 hlt
  rw [hgd] at r156
  obtain rfl : cs156 = cGFunc (gd x0 (w64 ((x0.length : Int) - 1))) la lc := r156
  refine WL.does kr kr (Does.tells (.load (v := .agg (cGFunc (⟨(gd x0 (w64 ((x0.length : Int) - 1))).Arity, (gd x0 (w64 ((x0.length : Int) - 1))).Locals, (gd x0 (w64 ((x0.length : Int) - 1))).Slots, (gd x0 (w64 ((x0.length : Int) - 1))).Code⟩ : GFunc) la lc).toArray) hb156 hc156 kr (j := 0) rfl kr) ?_)
  refine WL.does kr kr (Does.alloc H (cGFunc (⟨0, 0, 0, []⟩ : GFunc) none 0) kr fun b157 w H => ?_)
  refine WL.does kr kr (Does.storeE H 0 (cGFunc (⟨(gd x0 (w64 ((x0.length : Int) - 1))).Arity, (gd x0 (w64 ((x0.length : Int) - 1))).Locals, (gd x0 (w64 ((x0.length : Int) - 1))).Slots, (gd x0 (w64 ((x0.length : Int) - 1))).Code⟩ : GFunc) la lc) rfl (q := 0) kr kr kr fun w H => ?_)
  refine WL.fin 0 kr kr ?_
  refine WE.seq ?_
  refine WE.region ?_
  refine WL.sg 1 kr ?_
  refine WL.does kr kr (Does.loadV H 0 rfl 3 kr kr ?_)
  refine WL.does kr kr (Does.loadV H 3 rfl 0 kr kr ?_)
  refine WL.does kr kr (Does.lit (K := rGInstr) (B := 24) (xs := [(⟨y143, (gd y103 (0 : Int)), (gd y103 (1 : Int))⟩ : GInstr)]) (e := 71) H ([.int .i64 y143, .int .i64 (gd y103 (0 : Int)), .int .i64 (gd y103 (1 : Int))] ++ []) kr (Rows.cons (C := [.int .i64 y143, .int .i64 (gd y103 (0 : Int)), .int .i64 (gd y103 (1 : Int))]) (x := (⟨y143, (gd y103 (0 : Int)), (gd y103 (1 : Int))⟩ : GInstr)) (by show _ = _; kernel_rfl) Rows.nil) kr kr kr kr fun b158 w H => ?_)
  obtain ⟨g159, hr⟩ := grd_cases hr
  refine WL.does (by kernel_rfl) (by kernel_rfl) (Does.append (t := 29) (xt := 29) (ty := 29) (e := 71) (e2 := 71) (z := .agg #[.int .i64 0, .int .i64 0, .int .i64 0]) H 3 rfl le83 (ys := [(⟨y143, (gd y103 (0 : Int)), (gd y103 (1 : Int))⟩ : GInstr)]) (c2 := 1) (H.rowSrc 0 rfl (Gh.refl _)) g159 (by kernel_rfl) (by kernel_rfl) (by kernel_rfl) (by kernel_rfl) fun a159 c159 w H => ?_)
  refine WL.sg 1 (by kernel_rfl) ?_
  refine WL.does kr kr (Does.storeE H 1 (cGFunc (⟨(gd x0 (w64 ((x0.length : Int) - 1))).Arity, (gd x0 (w64 ((x0.length : Int) - 1))).Locals, (gd x0 (w64 ((x0.length : Int) - 1))).Slots, (((gd x0 (w64 ((x0.length : Int) - 1))).Code) ++ [(⟨y143, (gd y103 (0 : Int)), (gd y103 (1 : Int))⟩ : GInstr)])⟩ : GFunc) a159 c159) rfl (q := 3) kr kr kr fun w H => ?_)
  refine WL.fin 0 kr kr ?_
  refine WE.seq ?_
  refine WE.region ?_
  refine WL.sg 2 kr ?_
  refine WL.does kr kr (Does.loadV H 1 rfl 0 kr kr ?_)
  obtain ⟨⟨g0_160, g1_160⟩, hr⟩ := grd_cases hr
  refine WL.does kr kr (Does.tells (.idx b150 (p150) x0.length c1 (w64 ((x0.length : Int) - 1)) 4 kr kr g0_160 g1_160 kr) ?_)
  obtain ⟨C162, e162, cs162, hb162, hc162, r162⟩ := H.rowAt2 2 rfl g0_160 hlt
  rw [hgd] at r162
  obtain rfl : cs162 = cGFunc (gd x0 (w64 ((x0.length : Int) - 1))) la lc := r162
  refine WL.does kr kr (Does.storeRow H 2 rfl le83 (j := (w64 ((x0.length : Int) - 1)).toNat) (by have h0 := g0_160; have h1 := hlt; omega) hb162 hc162 0 kr kr (y' := ((⟨(gd x0 (w64 ((x0.length : Int) - 1))).Arity, (gd x0 (w64 ((x0.length : Int) - 1))).Locals, (gd x0 (w64 ((x0.length : Int) - 1))).Slots, (((gd x0 (w64 ((x0.length : Int) - 1))).Code) ++ [(⟨y143, (gd y103 (0 : Int)), (gd y103 (1 : Int))⟩ : GInstr)])⟩ : GFunc), a159, c159)) (by show _ = _; kernel_rfl) fun w H => ?_)
  refine WL.spelt 0 (v := .slice (some ⟨b150, p150, none⟩) (x0.set (w64 ((x0.length : Int) - 1)).toNat (⟨(gd x0 (w64 ((x0.length : Int) - 1))).Arity, (gd x0 (w64 ((x0.length : Int) - 1))).Locals, (gd x0 (w64 ((x0.length : Int) - 1))).Slots, (((gd x0 (w64 ((x0.length : Int) - 1))).Code) ++ [(⟨y143, (gd y103 (0 : Int)), (gd y103 (1 : Int))⟩ : GInstr)])⟩ : GFunc)).length c1) kr (Eq.trans (b := .slice (some ⟨b150, p150, none⟩) x0.length c1) kr (sl_len (List.length_set ..).symm)) ?_
  refine WL.fin 0 kr kr ?_
  refine WE.seq ?_
  refine WE.region ?_
  refine WL.fin 3 kr kr ?_
  obtain rfl := Option.some.inj hr
  have H := (((H.front 3 rfl).front 3 rfl).mid 2 3).dLay (y := (⟨(gd x0 (w64 ((x0.length : Int) - 1))).Arity, (gd x0 (w64 ((x0.length : Int) - 1))).Locals, (gd x0 (w64 ((x0.length : Int) - 1))).Slots, (((gd x0 (w64 ((x0.length : Int) - 1))).Code) ++ [(⟨y143, (gd y103 (0 : Int)), (gd y103 (1 : Int))⟩ : GInstr)])⟩ : GFunc)) hxs (fun i hi => (hin i hi).up le83) hil
  exact WE.ret ⟨[.slice (some ⟨b150, p150, none⟩) (x0.set (w64 ((x0.length : Int) - 1)).toNat (⟨(gd x0 (w64 ((x0.length : Int) - 1))).Arity, (gd x0 (w64 ((x0.length : Int) - 1))).Locals, (gd x0 (w64 ((x0.length : Int) - 1))).Slots, (((gd x0 (w64 ((x0.length : Int) - 1))).Code) ++ [(⟨y143, (gd y103 (0 : Int)), (gd y103 (1 : Int))⟩ : GInstr)])⟩ : GFunc)).length c1, .bool true], ⟨⟨kr, kr⟩, ⟨kr, kr⟩, trivial⟩, ⟨h83, (some ⟨b150, p150, none⟩), c1, a159, rfl, le83, H⟩⟩
  }
  }
  }
  rcases ite_cases hy148 with ⟨ty148, hy148⟩ | ⟨ty148, hy148⟩
  {
  refine WL.known 111 ty148 kr kr ?_
  refine WL.sg 3 kr ?_
  obtain rfl := hy148
  exact WL.live [0, 10, 12, 114] kr (hk_y148 () _ H)
  }
  {
  refine WL.known 111 ty148 kr kr ?_
  refine WL.sg 3 kr ?_
  obtain rfl := hy148
  exact WL.live [0, 10, 12, 114] kr (hk_y148 () _ H)
  }
  }
  rcases ite_cases hy146 with ⟨ty146, hy146⟩ | ⟨ty146, hy146⟩
  {
  refine WL.known 102 ty146 kr kr ?_
  refine WL.sg 8 kr ?_
  obtain rfl := hy146
  exact WL.live [0, 10, 12, 110] kr (hk_y146 () _ (((H.front 3 rfl).front 1 rfl).mid 2 2))
  }
  {
  refine WL.known 102 ty146 kr kr ?_
  refine WL.sg 3 kr ?_
  refine WL.does kr kr (Does.loadV H 0 rfl 0 kr kr ?_)
  obtain ⟨y163, q163, hy146⟩ := bnd_cases hy146
  refine WL.does kr kr (Does.call (c_r06_Fields y143 H q163) kr ?_)
  rintro _ w ⟨rfl, H⟩
  refine WL.sg 3 kr ?_
  obtain rfl := hy146
  exact WL.live [0, 10, 12, 110] kr (hk_y146 () _ (((H.front 3 rfl).front 1 rfl).mid 2 2))
  }
  }
  {
  refine WT.does 11 kr rfl kr kr (Does.alloc H [.int .i64 0, .int .i64 0, .int .i64 0] kr fun b144 w H => ?_)
  refine WD.does 3 kr rfl (Floats.of [7, 4, 0] [9, 8, 6, 5, 2, 1] kr (Floats.pure _ kr kr) (.cons (.tells rfl kr kr (.loadRow (v := .int .i64 (gd y103 (1 : Int))) H 1 rfl g0_142 g1_142 0 1 rfl (fun _ e => by rcases e with rfl; kernel_rfl) kr)) (.cons (.tells rfl kr kr (.idx b141 (p141) y103.length c103 (1 : Int) 1 kr kr g0_142 g1_142 kr)) (.cons (.tells rfl kr kr (.loadRow (v := .int .i64 (gd y103 (0 : Int))) H 1 rfl g0_141 g1_141 0 1 rfl (fun _ e => by rcases e with rfl; kernel_rfl) kr)) (.cons (.tells rfl kr kr (.idx b141 (p141) y103.length c103 (0 : Int) 1 kr kr g0_141 g1_141 kr)) (.cons (.tells rfl kr kr (.loadRow (v := .string (gd y83 (0 : Int))) H 2 rfl g0_140 g1_140 0 1 rfl (fun _ e => by rcases e with rfl; kernel_rfl) kr)) (.cons (.tells rfl kr kr (.idx b112 (p112) y83.length c84 (0 : Int) 1 kr kr g0_140 g1_140 kr)) .nil))))))) kr kr (Does.call (c_r06_Find K (gd y83 (0 : Int)) H q143) kr ?_)
  rintro _ w ⟨rfl, H⟩
  refine WD.know [10] kr ?_
  refine WD.does 12 kr rfl (Floats.of [10, 7, 4, 0] [9, 8, 6, 5, 1] kr (Floats.pure _ kr kr) (.cons (.tells rfl kr kr (.loadRow (v := .int .i64 (gd y103 (1 : Int))) H 1 rfl g0_142 g1_142 0 1 rfl (fun _ e => by rcases e with rfl; kernel_rfl) kr)) (.cons (.tells rfl kr kr (.idx b141 (p141) y103.length c103 (1 : Int) 1 kr kr g0_142 g1_142 kr)) (.cons (.tells rfl kr kr (.loadRow (v := .int .i64 (gd y103 (0 : Int))) H 1 rfl g0_141 g1_141 0 1 rfl (fun _ e => by rcases e with rfl; kernel_rfl) kr)) (.cons (.tells rfl kr kr (.idx b141 (p141) y103.length c103 (0 : Int) 1 kr kr g0_141 g1_141 kr)) (.cons (.tells rfl kr kr (.idx b112 (p112) y83.length c84 (0 : Int) 1 kr kr g0_140 g1_140 kr)) .nil)))))) kr kr (Does.storeE H 0 [.int .i64 y143, .int .i64 (gd y103 (0 : Int)), .int .i64 (gd y103 (1 : Int))] rfl (q := 0) kr kr kr fun w H => ?_)
  refine WD.fin kr (Floats.of [] [] kr .nil .nil) kr kr ?_
  refine WE.seq ?_
  refine WE.seq ?_
  refine WE.region ?_
  refine WL.does kr kr (Does.loadV H 0 rfl 0 kr kr ?_)
  obtain ⟨y145, q145, hr⟩ := bnd_cases hr
  refine WL.does kr kr (Does.call (c_r06_May (⟨y143, (gd y103 (0 : Int)), (gd y103 (1 : Int))⟩ : GInstr) H q145) kr ?_)
  rintro _ w ⟨rfl, H⟩
  refine WL.sg 2 kr ?_
  obtain ⟨y146, hy146, hr⟩ := bnd_cases hr
  refine WL.join 8 (fun (_ : Unit) => [(0, .slice a1 x0.length c1), (10, .int .i64 (w64 ((x0.length : Int) - 1))), (12, .pointer (some ⟨b144, 0, none⟩)), (110, .bool y146)]) (fun (_ : Unit) w => St w0 h83 w (var b144 [.int .i64 y143, .int .i64 (gd y103 (0 : Int)), .int .i64 (gd y103 (1 : Int))] 71 :: drow hGFunc rGInstr 48 24 GFunc.Code h a1 c1 la x0 :: L)) ?_ (fun hk_y146 => ?_)
  {
  rintro _ w H
  refine WL.sg 1 kr ?_
  obtain ⟨y148, hy148, hr⟩ := bnd_cases hr
  refine WL.join 3 (fun (_ : Unit) => [(0, .slice a1 x0.length c1), (10, .int .i64 (w64 ((x0.length : Int) - 1))), (12, .pointer (some ⟨b144, 0, none⟩)), (114, .bool y148)]) (fun (_ : Unit) w => St w0 h83 w (var b144 [.int .i64 y143, .int .i64 (gd y103 (0 : Int)), .int .i64 (gd y103 (1 : Int))] 71 :: drow hGFunc rGInstr 48 24 GFunc.Code h a1 c1 la x0 :: L)) ?_ (fun hk_y148 => ?_)
  {
  rintro _ w H
  refine WL.fin 0 kr kr ?_
  rcases ite_cases hr with ⟨t149, hr⟩ | ⟨t149, hr⟩
  {
  refine WE.yes kr (b := y148) kr t149 ?_
  refine WE.seq ?_
  refine WE.region ?_
  refine WL.fin 3 kr kr ?_
  have H := H.dUp 1 rfl le83
  obtain rfl := Option.some.inj hr
  exact WE.ret ⟨[.slice a1 x0.length c1, .bool false], ⟨⟨kr, kr⟩, ⟨kr, kr⟩, trivial⟩, ⟨h83, a1, c1, la, rfl, le83, (H.keep 1)⟩⟩
  }
  {
  refine WE.no kr (b := y148) kr t149 ?_
  refine WE.skip ?_
  refine WE.seq ?_
  refine WE.seq ?_
  refine WE.region ?_
  obtain ⟨⟨g0_150, g1_150⟩, hr⟩ := grd_cases hr
  obtain ⟨b150, p150, rfl⟩ := H.dSome 1 rfl g0_150 g1_150
  refine WL.sg 2 kr ?_
  refine WL.does kr kr (Does.tells (.idx b150 (p150) x0.length c1 (w64 ((x0.length : Int) - 1)) 4 kr kr g0_150 g1_150 kr) ?_)
  refine WL.sg 1 kr ?_
  obtain ⟨C152, e152, _, hb152, hc152, a151, c151, rfl⟩ := H.dAt 1 rfl g0_150 g1_150
  refine WL.does kr kr (Does.tells (.load (v := .slice a151 ((gd x0 (w64 ((x0.length : Int) - 1))).Code).length c151) hb152 hc152 kr (j := 3) rfl kr) ?_)
  refine WL.fin 2 kr kr ?_
  rcases ite_cases hr with ⟨t153, hr⟩ | ⟨t153, hr⟩
  {
  refine WE.yes kr (b := (((gd x0 (w64 ((x0.length : Int) - 1))).Code).length : Int) == 200) kr t153 ?_
  refine WE.seq ?_
  refine WE.region ?_
  refine WL.fin 3 kr kr ?_
  have H := H.dUp 1 rfl le83
  obtain rfl := Option.some.inj hr
  exact WE.ret ⟨[.slice (some ⟨b150, p150, none⟩) x0.length c1, .bool false], ⟨⟨kr, kr⟩, ⟨kr, kr⟩, trivial⟩, ⟨h83, (some ⟨b150, p150, none⟩), c1, la, rfl, le83, (H.keep 1)⟩⟩
  }
  {
  refine WE.no kr (b := (((gd x0 (w64 ((x0.length : Int) - 1))).Code).length : Int) == 200) kr t153 ?_
  refine WE.skip ?_
  refine WE.seq ?_
  refine WE.region ?_
  obtain ⟨⟨g0_154, g1_154⟩, hr⟩ := grd_cases hr
  refine WL.sg 2 kr ?_
  refine WL.does kr kr (Does.tells (.idx b150 (p150) x0.length c1 (w64 ((x0.length : Int) - 1)) 4 kr kr g0_154 g1_154 kr) ?_)
  have H := H.front 1 rfl
  have hz1 : (w64 ((x0.length : Int) - 1)) + 1 = x0.length := last_at (H.dLen 0 rfl) g0_154 g1_154
  obtain ⟨init, lc, hxs, hin, hil, H⟩ := H.dLast g0_154 hz1
  have hlt : (w64 ((x0.length : Int) - 1)) < ((init ++ [(gd x0 (w64 ((x0.length : Int) - 1)), la, lc)]).length : Int) := by have := g0_154; simp only [List.length_append, List.length_cons, List.length_nil]; omega
  have hgd : gd (init ++ [(gd x0 (w64 ((x0.length : Int) - 1)), la, lc)]) (w64 ((x0.length : Int) - 1)) = (gd x0 (w64 ((x0.length : Int) - 1)), la, lc) := gd_last hil g0_154
  obtain ⟨C156, e156, cs156, hb156, hc156, r156⟩ := H.rowAt2 0 rfl g0_154 hlt
  rw [hgd] at r156
  obtain rfl : cs156 = cGFunc (gd x0 (w64 ((x0.length : Int) - 1))) la lc := r156
  refine WL.does kr kr (Does.tells (.load (v := .agg (cGFunc (⟨(gd x0 (w64 ((x0.length : Int) - 1))).Arity, (gd x0 (w64 ((x0.length : Int) - 1))).Locals, (gd x0 (w64 ((x0.length : Int) - 1))).Slots, (gd x0 (w64 ((x0.length : Int) - 1))).Code⟩ : GFunc) la lc).toArray) hb156 hc156 kr (j := 0) rfl kr) ?_)
  refine WL.does kr kr (Does.alloc H (cGFunc (⟨0, 0, 0, []⟩ : GFunc) none 0) kr fun b157 w H => ?_)
  refine WL.does kr kr (Does.storeE H 0 (cGFunc (⟨(gd x0 (w64 ((x0.length : Int) - 1))).Arity, (gd x0 (w64 ((x0.length : Int) - 1))).Locals, (gd x0 (w64 ((x0.length : Int) - 1))).Slots, (gd x0 (w64 ((x0.length : Int) - 1))).Code⟩ : GFunc) la lc) rfl (q := 0) kr kr kr fun w H => ?_)
  refine WL.fin 0 kr kr ?_
  refine WE.seq ?_
  refine WE.region ?_
  refine WL.sg 1 kr ?_
  refine WL.does kr kr (Does.loadV H 0 rfl 3 kr kr ?_)
  refine WL.does kr kr (Does.loadV H 3 rfl 0 kr kr ?_)
  refine WL.does kr kr (Does.lit (K := rGInstr) (B := 24) (xs := [(⟨y143, (gd y103 (0 : Int)), (gd y103 (1 : Int))⟩ : GInstr)]) (e := 71) H ([.int .i64 y143, .int .i64 (gd y103 (0 : Int)), .int .i64 (gd y103 (1 : Int))] ++ []) kr (Rows.cons (C := [.int .i64 y143, .int .i64 (gd y103 (0 : Int)), .int .i64 (gd y103 (1 : Int))]) (x := (⟨y143, (gd y103 (0 : Int)), (gd y103 (1 : Int))⟩ : GInstr)) (by show _ = _; kernel_rfl) Rows.nil) kr kr kr kr fun b158 w H => ?_)
  obtain ⟨g159, hr⟩ := grd_cases hr
  refine WL.does (by kernel_rfl) (by kernel_rfl) (Does.append (t := 29) (xt := 29) (ty := 29) (e := 71) (e2 := 71) (z := .agg #[.int .i64 0, .int .i64 0, .int .i64 0]) H 3 rfl le83 (ys := [(⟨y143, (gd y103 (0 : Int)), (gd y103 (1 : Int))⟩ : GInstr)]) (c2 := 1) (H.rowSrc 0 rfl (Gh.refl _)) g159 (by kernel_rfl) (by kernel_rfl) (by kernel_rfl) (by kernel_rfl) fun a159 c159 w H => ?_)
  refine WL.sg 1 (by kernel_rfl) ?_
  refine WL.does kr kr (Does.storeE H 1 (cGFunc (⟨(gd x0 (w64 ((x0.length : Int) - 1))).Arity, (gd x0 (w64 ((x0.length : Int) - 1))).Locals, (gd x0 (w64 ((x0.length : Int) - 1))).Slots, (((gd x0 (w64 ((x0.length : Int) - 1))).Code) ++ [(⟨y143, (gd y103 (0 : Int)), (gd y103 (1 : Int))⟩ : GInstr)])⟩ : GFunc) a159 c159) rfl (q := 3) kr kr kr fun w H => ?_)
  refine WL.fin 0 kr kr ?_
  refine WE.seq ?_
  refine WE.region ?_
  refine WL.sg 2 kr ?_
  refine WL.does kr kr (Does.loadV H 1 rfl 0 kr kr ?_)
  obtain ⟨⟨g0_160, g1_160⟩, hr⟩ := grd_cases hr
  refine WL.does kr kr (Does.tells (.idx b150 (p150) x0.length c1 (w64 ((x0.length : Int) - 1)) 4 kr kr g0_160 g1_160 kr) ?_)
  obtain ⟨C162, e162, cs162, hb162, hc162, r162⟩ := H.rowAt2 2 rfl g0_160 hlt
  rw [hgd] at r162
  obtain rfl : cs162 = cGFunc (gd x0 (w64 ((x0.length : Int) - 1))) la lc := r162
  refine WL.does kr kr (Does.storeRow H 2 rfl le83 (j := (w64 ((x0.length : Int) - 1)).toNat) (by have h0 := g0_160; have h1 := hlt; omega) hb162 hc162 0 kr kr (y' := ((⟨(gd x0 (w64 ((x0.length : Int) - 1))).Arity, (gd x0 (w64 ((x0.length : Int) - 1))).Locals, (gd x0 (w64 ((x0.length : Int) - 1))).Slots, (((gd x0 (w64 ((x0.length : Int) - 1))).Code) ++ [(⟨y143, (gd y103 (0 : Int)), (gd y103 (1 : Int))⟩ : GInstr)])⟩ : GFunc), a159, c159)) (by show _ = _; kernel_rfl) fun w H => ?_)
  refine WL.spelt 0 (v := .slice (some ⟨b150, p150, none⟩) (x0.set (w64 ((x0.length : Int) - 1)).toNat (⟨(gd x0 (w64 ((x0.length : Int) - 1))).Arity, (gd x0 (w64 ((x0.length : Int) - 1))).Locals, (gd x0 (w64 ((x0.length : Int) - 1))).Slots, (((gd x0 (w64 ((x0.length : Int) - 1))).Code) ++ [(⟨y143, (gd y103 (0 : Int)), (gd y103 (1 : Int))⟩ : GInstr)])⟩ : GFunc)).length c1) kr (Eq.trans (b := .slice (some ⟨b150, p150, none⟩) x0.length c1) kr (sl_len (List.length_set ..).symm)) ?_
  refine WL.fin 0 kr kr ?_
  refine WE.seq ?_
  refine WE.region ?_
  refine WL.fin 3 kr kr ?_
  obtain rfl := Option.some.inj hr
  have H := (((H.front 3 rfl).front 3 rfl).mid 2 3).dLay (y := (⟨(gd x0 (w64 ((x0.length : Int) - 1))).Arity, (gd x0 (w64 ((x0.length : Int) - 1))).Locals, (gd x0 (w64 ((x0.length : Int) - 1))).Slots, (((gd x0 (w64 ((x0.length : Int) - 1))).Code) ++ [(⟨y143, (gd y103 (0 : Int)), (gd y103 (1 : Int))⟩ : GInstr)])⟩ : GFunc)) hxs (fun i hi => (hin i hi).up le83) hil
  exact WE.ret ⟨[.slice (some ⟨b150, p150, none⟩) (x0.set (w64 ((x0.length : Int) - 1)).toNat (⟨(gd x0 (w64 ((x0.length : Int) - 1))).Arity, (gd x0 (w64 ((x0.length : Int) - 1))).Locals, (gd x0 (w64 ((x0.length : Int) - 1))).Slots, (((gd x0 (w64 ((x0.length : Int) - 1))).Code) ++ [(⟨y143, (gd y103 (0 : Int)), (gd y103 (1 : Int))⟩ : GInstr)])⟩ : GFunc)).length c1, .bool true], ⟨⟨kr, kr⟩, ⟨kr, kr⟩, trivial⟩, ⟨h83, (some ⟨b150, p150, none⟩), c1, a159, rfl, le83, H⟩⟩
  }
  }
  }
  rcases ite_cases hy148 with ⟨ty148, hy148⟩ | ⟨ty148, hy148⟩
  {
  refine WL.known 111 ty148 kr kr ?_
  refine WL.sg 3 kr ?_
  obtain rfl := hy148
  exact WL.live [0, 10, 12, 114] kr (hk_y148 () _ H)
  }
  {
  refine WL.known 111 ty148 kr kr ?_
  refine WL.sg 3 kr ?_
  obtain rfl := hy148
  exact WL.live [0, 10, 12, 114] kr (hk_y148 () _ H)
  }
  }
  rcases ite_cases hy146 with ⟨ty146, hy146⟩ | ⟨ty146, hy146⟩
  {
  refine WL.known 102 ty146 kr kr ?_
  refine WL.sg 8 kr ?_
  obtain rfl := hy146
  exact WL.live [0, 10, 12, 110] kr (hk_y146 () _ (((H.front 3 rfl).front 1 rfl).mid 2 2))
  }
  {
  refine WL.known 102 ty146 kr kr ?_
  refine WL.sg 3 kr ?_
  refine WL.does kr kr (Does.loadV H 0 rfl 0 kr kr ?_)
  obtain ⟨y163, q163, hy146⟩ := bnd_cases hy146
  refine WL.does kr kr (Does.call (c_r06_Fields y143 H q163) kr ?_)
  rintro _ w ⟨rfl, H⟩
  refine WL.sg 3 kr ?_
  obtain rfl := hy146
  exact WL.live [0, 10, 12, 110] kr (hk_y146 () _ (((H.front 3 rfl).front 1 rfl).mid 2 2))
  }
  }
  }
  }
def r07_Parse_l1 (K : Nat) (y36 : (List ByteArray)) : Nat → (List GFunc × Int) → Option ((List GFunc) × Int × Int)
  | 0, _ => none
  | k1 + 1, (y56, y57) =>
    if decide (y57 < (w64 ((y36.length : Int) - 1))) then
      if 0 ≤ y57 ∧ y57 < y36.length then
        (r07_lay K y56 (gd y36 y57)).bind fun y60 =>
        if !y60.2 then
          some ([], y57, 70)
        else
          r07_Parse_l1 K y36 k1 (y60.1, w64 (y57 + 1))
      else none
    else
      if 0 ≤ (w64 ((y36.length : Int) - 1)) ∧ (w64 ((y36.length : Int) - 1)) < y36.length then
        (
            if !((gd y36 (w64 ((y36.length : Int) - 1))).toList == (⟨#[]⟩ : ByteArray).toList) then
              some true
            else
              (r07_May K y56).bind fun y72 =>
              some (!y72)).bind fun y66 =>
        if y66 then
          some ([], w64 ((y36.length : Int) - 1), 70)
        else
          some (y56, w64 ((y36.length : Int) - 1), 0)
      else none
def r07_Parse (K : Nat) (x0 : ByteArray) : Option ((List GFunc) × Int × Int) :=
  (r07_Split K x0 10).bind fun y36 =>
  r07_Parse_l1 K y36 K ([], 0)
set_option maxRecDepth 100000 in
set_option maxHeartbeats 4000000 in
theorem c_r07_Parse {w0 w : World} {h : Gh} {L : List Ent} (K : Nat) (x0 : ByteArray) (H : St w0 h w L) {r : (List GFunc) × Int × Int} (hr : r07_Parse K x0 = some r) : Calls Try.prog 37 #[.string x0] w (fun e w' => ∃ v, e = .returned v ∧ ∃ (h' : Gh) (a901 : Option Addr) (c901 : Nat), v = .tuple #[.slice a901 r.1.length c901, .int .i64 r.2.1, .int .i64 r.2.2] ∧ h.le h' ∧ Sl rGFunc 48 h' a901 c901 r.1 ∧ St w0 h' w' L) := by
  refine calls_of (args := [.string x0]) (n := 52) (rs := [.tmp 2, .tmp 3, .tmp 4]) Try.func37 rfl rfl rfl rfl rfl ?_
  unfold r07_Parse at hr
  refine WE.seq ?_
  refine WE.region ?_
  refine WL.fin 3 kr kr ?_
  refine WE.seq ?_
  refine WE.region ?_
  obtain ⟨y36, q36, hr⟩ := bind_cases hr
  refine WL.sg 1 kr ?_
  refine WL.does kr kr (Does.call (c_r07_Split K x0 10 H q36) kr ?_)
  rintro _ w ⟨h36, a37, c37, rfl, le36, H⟩
  refine WL.fin 1 kr kr ?_
  refine WE.seq ?_
  refine WE.region ?_
  refine WL.does kr kr (Does.lit (K := rGFunc) (B := 48) (xs := []) (e := 31) H [] kr Rows.nil kr kr kr kr fun b39 w H => ?_)
  have H := H.dNil hGFunc rfl rGInstr 24 GFunc.Code
  refine WL.fin 1 kr kr ?_
  refine WE.seq ?_
  refine WE.seq ?_
  refine WE.region ?_
  refine WL.fin 1 kr kr ?_
  refine WE.block ?_
  refine WE.loop (LP.live [5, 6, 7] kr (LP.rec (r07_Parse_l1 K y36) (fun (⟨y56, y57⟩ : List GFunc × Int) (⟨h55, a56, c56, la56⟩ : Gh × Option Addr × Nat × Option Addr) => [(5, .slice a37 y36.length c37), (6, .slice a56 y56.length c56), (7, .int .i64 y57)]) (fun (⟨y56, y57⟩ : List GFunc × Int) (⟨h55, a56, c56, la56⟩ : Gh × Option Addr × Nat × Option Addr) => fun w => h36.le h55 ∧ St w0 h55 w (drow hGFunc rGInstr 48 24 GFunc.Code h55 a56 c56 la56 y56 :: row Rep.str 16 h36 a37 c37 y36 :: L)) r (fun _ => rfl) ?_ K ([], 0) (h36, (some ⟨b39, 0, none⟩), 0, none) _ ⟨(Gh.refl _), H⟩ hr))
  rintro k1 ih1 ⟨y56, y57⟩ ⟨h55, a56, c56, la56⟩ w ⟨leh55, H⟩ hr
  simp only [r07_Parse_l1] at hr
  refine WE.seq ?_
  refine WE.seq ?_
  refine WE.region ?_
  refine WL.fin 5 kr kr ?_
  rcases ite_cases hr with ⟨t58, hr⟩ | ⟨t58, hr⟩
  {
  refine WE.yes kr (b := decide (y57 < (w64 ((y36.length : Int) - 1)))) kr t58 ?_
  refine WE.skip ?_
  refine WE.seq ?_
  refine WE.block ?_
  refine WE.seq ?_
  refine WE.region ?_
  obtain ⟨⟨g0_59, g1_59⟩, hr⟩ := grd_cases hr
  obtain ⟨b59, p59, rfl⟩ := H.rowSome 1 rfl g0_59 g1_59
  refine WL.sg 3 kr ?_
  refine WL.does kr kr (Does.tells (.idx b59 (p59) y36.length c37 y57 1 kr kr g0_59 g1_59 kr) ?_)
  refine WL.does kr kr (Does.tells (.loadRow (v := .string (gd y36 y57)) H 1 rfl g0_59 g1_59 0 1 rfl (fun _ e => by rcases e with rfl; kernel_rfl) kr) ?_)
  obtain ⟨y60, q60, hr⟩ := bind_cases hr
  refine WL.does kr kr (Does.call (c_r07_lay K y56 (gd y36 y57) H q60) kr ?_)
  rintro _ w ⟨h60, a61, c61, la61, rfl, le60, H⟩
  refine WL.fin 5 kr kr ?_
  refine WE.seq ?_
  refine WE.seq ?_
  refine WE.region ?_
  refine WL.fin 2 kr kr ?_
  rcases ite_cases hr with ⟨t63, hr⟩ | ⟨t63, hr⟩
  {
  refine WE.yes kr (b := !y60.2) kr t63 ?_
  refine WE.seq ?_
  refine WE.region ?_
  refine WL.fin 4 kr kr ?_
  obtain rfl := Option.some.inj hr
  exact WE.ret ⟨[.slice none 0 0, .int .i64 y57, .int .i64 70], ⟨⟨kr, kr⟩, ⟨kr, kr⟩, ⟨kr, kr⟩, trivial⟩, ⟨h60, none, 0, rfl, ((le36.trans leh55).trans le60), (Sl.nil _ _ (Nat.zero_le _)), (H.keep 2)⟩⟩
  }
  {
  refine WE.no kr (b := !y60.2) kr t63 ?_
  refine WE.skip ?_
  refine WE.region ?_
  refine WL.fin 2 kr kr ?_
  refine WE.region ?_
  refine WL.fin 3 kr kr ?_
  exact LP.live [5, 6, 7] kr (ih1 (y60.1, w64 (y57 + 1)) (h60, a61, c61, la61) _ ⟨(leh55.trans le60), H⟩ hr)
  }
  }
  {
  refine WE.no kr (b := decide (y57 < (w64 ((y36.length : Int) - 1)))) kr t58 ?_
  refine WE.exit ?_
  refine WE.seq ?_
  refine WE.seq ?_
  refine WE.region ?_
  obtain ⟨⟨g0_65, g1_65⟩, hr⟩ := grd_cases hr
  obtain ⟨b65, p65, rfl⟩ := H.rowSome 1 rfl g0_65 g1_65
  refine WL.sg 4 kr ?_
  refine WL.does kr kr (Does.tells (.idx b65 (p65) y36.length c37 (w64 ((y36.length : Int) - 1)) 1 kr kr g0_65 g1_65 kr) ?_)
  refine WL.does kr kr (Does.tells (.loadRow (v := .string (gd y36 (w64 ((y36.length : Int) - 1)))) H 1 rfl g0_65 g1_65 0 1 rfl (fun _ e => by rcases e with rfl; kernel_rfl) kr) ?_)
  refine WL.sg 2 kr ?_
  obtain ⟨y66, hy66, hr⟩ := bind_cases hr
  refine WL.join 4 (fun (_ : Unit) => [(5, .slice (some ⟨b65, p65, none⟩) y36.length c37), (6, .slice a56 y56.length c56), (44, .bool y66)]) (fun (_ : Unit) w => St w0 h55 w (drow hGFunc rGInstr 48 24 GFunc.Code h55 a56 c56 la56 y56 :: row Rep.str 16 h36 (some ⟨b65, p65, none⟩) c37 y36 :: L)) ?_ (fun hk_y66 => ?_)
  {
  rintro _ w H
  refine WL.fin 0 kr kr ?_
  rcases ite_cases hr with ⟨t69, hr⟩ | ⟨t69, hr⟩
  {
  refine WE.yes kr (b := y66) kr t69 ?_
  refine WE.seq ?_
  refine WE.region ?_
  refine WL.fin 6 kr kr ?_
  obtain rfl := Option.some.inj hr
  exact WE.ret ⟨[.slice none 0 0, .int .i64 (w64 ((y36.length : Int) - 1)), .int .i64 70], ⟨⟨kr, kr⟩, ⟨kr, kr⟩, ⟨kr, kr⟩, trivial⟩, ⟨h55, none, 0, rfl, (le36.trans leh55), (Sl.nil _ _ (Nat.zero_le _)), (H.keep 2)⟩⟩
  }
  {
  refine WE.no kr (b := y66) kr t69 ?_
  refine WE.skip ?_
  refine WE.seq ?_
  refine WE.region ?_
  refine WL.fin 7 kr kr ?_
  obtain rfl := Option.some.inj hr
  obtain ⟨h9, le9, s9, H⟩ := H.dFreeze (K := rGFunc) (Gh.refl _) rfl (fun _ _ _ e s => ⟨_, _, e, s⟩)
  exact WE.ret ⟨[.slice a56 y56.length c56, .int .i64 (w64 ((y36.length : Int) - 1)), .int .i64 0], ⟨⟨kr, kr⟩, ⟨kr, kr⟩, ⟨kr, kr⟩, trivial⟩, ⟨h9, a56, c56, rfl, (le36.trans leh55).trans le9, s9, (H.keep 1)⟩⟩
  }
  }
  rcases ite_cases hy66 with ⟨ty66, hy66⟩ | ⟨ty66, hy66⟩
  {
  refine WL.known 40 ty66 kr kr ?_
  refine WL.sg 4 kr ?_
  obtain rfl := Option.some.inj hy66
  exact WL.live [5, 6, 44] kr (hk_y66 () _ H)
  }
  {
  refine WL.known 40 ty66 kr kr ?_
  obtain ⟨y72, q72, hy66⟩ := bind_cases hy66
  refine WL.sg 1 kr ?_
  obtain ⟨h71, le71, f71, H, bk71⟩ := H.dLendX (K := rGFunc) (Gh.refl _) rfl (fun _ _ _ e s => ⟨_, _, e, s⟩)
  refine WL.does kr kr (Does.call (c_r07_May K y56 f71 H q72) kr ?_)
  rintro _ w ⟨rfl, H⟩
  have H := bk71 _ H
  refine WL.sg 2 kr ?_
  obtain rfl := Option.some.inj hy66
  exact WL.live [5, 6, 44] kr (hk_y66 () _ H)
  }
  }
def law09_of (K : Nat) (x0 : ByteArray) : Option (List GFunc) :=
  (r07_Parse K x0).bind fun y3 =>
  some y3.1
set_option maxRecDepth 100000 in
set_option maxHeartbeats 4000000 in
theorem c_law09_of {w0 w : World} {h : Gh} {L : List Ent} (K : Nat) (x0 : ByteArray) (H : St w0 h w L) {r : (List GFunc)} (hr : law09_of K x0 = some r) : Calls Try.prog 15 #[.string x0] w (fun e w' => ∃ v, e = .returned v ∧ ∃ (h' : Gh) (a901 : Option Addr) (c901 : Nat), v = .slice a901 r.length c901 ∧ h.le h' ∧ Sl rGFunc 48 h' a901 c901 r ∧ St w0 h' w' (L)) := by
  refine calls_of (args := [.string x0]) (n := 13) (rs := [.tmp 2]) Try.func15 rfl rfl rfl rfl rfl ?_
  unfold law09_of at hr
  refine WE.seq ?_
  refine WE.region ?_
  refine WL.fin 1 kr kr ?_
  refine WE.seq ?_
  refine WE.region ?_
  obtain ⟨y3, q3, hr⟩ := bind_cases hr
  refine WL.sg 1 kr ?_
  refine WL.does kr kr (Does.call (c_r07_Parse K x0 H q3) kr ?_)
  rintro _ w ⟨h3, a4, c4, rfl, le3, f4, H⟩
  refine WL.fin 7 kr kr ?_
  refine WE.seq ?_
  refine WE.region ?_
  refine WL.fin 2 kr kr ?_
  obtain rfl := Option.some.inj hr
  exact WE.ret ⟨[.slice a4 y3.1.length c4], ⟨⟨kr, kr⟩, trivial⟩, ⟨h3, a4, c4, rfl, le3, f4, H⟩⟩
def code_in (x0 : Int) (x1 : Int) (x2 : Int) : Bool :=
  bnd (
      if decide (x0 ≥ x1) then
        decide (x0 ≤ x2)
      else
        false) fun y1 =>
  y1
set_option maxRecDepth 100000 in
set_option maxHeartbeats 4000000 in
theorem c_code_in {w0 w : World} {h : Gh} {L : List Ent} (x0 : Int) (x1 : Int) (x2 : Int) (H : St w0 h w L) {r : Bool} (hr : code_in x0 x1 x2 = r) : Calls Try.prog 45 #[.int .i64 x0, .int .i64 x1, .int .i64 x2] w (fun e w' => ∃ v, e = .returned v ∧ v = .bool r ∧ St w0 h w' (L)) := by
  refine calls_of (args := [.int .i64 x0, .int .i64 x1, .int .i64 x2]) (n := 15) (rs := [.tmp 6]) Try.func45 rfl rfl rfl rfl rfl ?_
  unfold code_in at hr
  refine WE.seq ?_
  refine WE.region ?_
  refine WL.fin 1 kr kr ?_
  refine WE.seq ?_
  refine WE.region ?_
  refine WL.sg 4 kr ?_
  obtain ⟨y1, hy1, hr⟩ := bnd_cases hr
  refine WL.join 4 (fun (_ : Unit) => [(14, .bool y1)]) (fun (_ : Unit) w => St w0 h w (L)) ?_ (fun hk_y1 => ?_)
  {
  rintro _ w H
  refine WL.fin 1 kr kr ?_
  obtain rfl := hr
  exact WE.ret ⟨[.bool y1], ⟨⟨kr, kr⟩, trivial⟩, ⟨rfl, H⟩⟩
  }
  rcases ite_cases hy1 with ⟨ty1, hy1⟩ | ⟨ty1, hy1⟩
  {
  refine WL.known 10 ty1 kr kr ?_
  refine WL.sg 4 kr ?_
  obtain rfl := hy1
  exact WL.live [14] kr (hk_y1 () _ H)
  }
  {
  refine WL.known 10 ty1 kr kr ?_
  refine WL.sg 4 kr ?_
  obtain rfl := hy1
  exact WL.live [14] kr (hk_y1 () _ H)
  }
def code_head (x0 : GFunc) : Bool :=
  bnd (code_in x0.Arity 0 16) fun y3 =>
  bnd (
      if y3 then
        bnd (code_in x0.Locals 0 16) fun y9 =>
        y9
      else
        false) fun y4 =>
  bnd (
      if y4 then
        bnd (code_in x0.Slots 0 8) fun y8 =>
        y8
      else
        false) fun y6 =>
  y6
set_option maxRecDepth 100000 in
set_option maxHeartbeats 4000000 in
theorem c_code_head {w0 w : World} {h : Gh} {L : List Ent} (x0 : GFunc) {a1 : Option Addr} {c1 : Nat} (f1 : Sl rGInstr 24 h a1 c1 x0.Code) (H : St w0 h w L) {r : Bool} (hr : code_head x0 = r) : Calls Try.prog 44 #[.agg (cGFunc x0 a1 c1).toArray] w (fun e w' => ∃ v, e = .returned v ∧ v = .bool r ∧ St w0 h w' (L)) := by
  refine calls_of (args := [.agg (cGFunc x0 a1 c1).toArray]) (n := 16) (rs := [.tmp 2]) Try.func44 rfl rfl rfl rfl rfl ?_
  unfold code_head at hr
  refine WE.seq ?_
  refine WE.region ?_
  refine WL.does kr kr (Does.box H (cGFunc x0 a1 c1) kr fun b2 w H => ?_)
  refine WL.fin 1 kr kr ?_
  refine WE.seq ?_
  refine WE.region ?_
  refine WL.sg 1 kr ?_
  refine WL.does kr kr (Does.loadV H 0 rfl 0 kr kr ?_)
  obtain ⟨y3, q3, hr⟩ := bnd_cases hr
  refine WL.does kr kr (Does.call (c_code_in x0.Arity 0 16 H q3) kr ?_)
  rintro _ w ⟨rfl, H⟩
  refine WL.sg 1 kr ?_
  obtain ⟨y4, hy4, hr⟩ := bnd_cases hr
  refine WL.join 4 (fun (_ : Unit) => [(1, .pointer (some ⟨b2, 0, none⟩)), (10, .bool y4)]) (fun (_ : Unit) w => St w0 h w (var b2 (cGFunc x0 a1 c1) 31 :: L)) ?_ (fun hk_y4 => ?_)
  {
  rintro _ w H
  refine WL.sg 1 kr ?_
  obtain ⟨y6, hy6, hr⟩ := bnd_cases hr
  refine WL.join 4 (fun (_ : Unit) => [(15, .bool y6)]) (fun (_ : Unit) w => St w0 h w (var b2 (cGFunc x0 a1 c1) 31 :: L)) ?_ (fun hk_y6 => ?_)
  {
  rintro _ w H
  refine WL.fin 1 kr kr ?_
  obtain rfl := hr
  exact WE.ret ⟨[.bool y6], ⟨⟨kr, kr⟩, trivial⟩, ⟨rfl, (H.keep 1)⟩⟩
  }
  rcases ite_cases hy6 with ⟨ty6, hy6⟩ | ⟨ty6, hy6⟩
  {
  refine WL.known 11 ty6 kr kr ?_
  refine WL.sg 1 kr ?_
  refine WL.does kr kr (Does.loadV H 0 rfl 2 kr kr ?_)
  obtain ⟨y8, q8, hy6⟩ := bnd_cases hy6
  refine WL.does kr kr (Does.call (c_code_in x0.Slots 0 8 H q8) kr ?_)
  rintro _ w ⟨rfl, H⟩
  refine WL.sg 1 kr ?_
  obtain rfl := hy6
  exact WL.live [15] kr (hk_y6 () _ H)
  }
  {
  refine WL.known 11 ty6 kr kr ?_
  refine WL.sg 4 kr ?_
  obtain rfl := hy6
  exact WL.live [15] kr (hk_y6 () _ H)
  }
  }
  rcases ite_cases hy4 with ⟨ty4, hy4⟩ | ⟨ty4, hy4⟩
  {
  refine WL.known 6 ty4 kr kr ?_
  refine WL.sg 1 kr ?_
  refine WL.does kr kr (Does.loadV H 0 rfl 1 kr kr ?_)
  obtain ⟨y9, q9, hy4⟩ := bnd_cases hy4
  refine WL.does kr kr (Does.call (c_code_in x0.Locals 0 16 H q9) kr ?_)
  rintro _ w ⟨rfl, H⟩
  refine WL.sg 1 kr ?_
  obtain rfl := hy4
  exact WL.live [1, 10] kr (hk_y4 () _ H)
  }
  {
  refine WL.known 6 ty4 kr kr ?_
  refine WL.sg 4 kr ?_
  obtain rfl := hy4
  exact WL.live [1, 10] kr (hk_y4 () _ H)
  }
def op_spans (x0 : Int) : Gspan × Gspan :=
  if x0 == 0 then
    ((⟨0, 250⟩ : Gspan), (⟨0, 250⟩ : Gspan))
  else
    if x0 == 1 then
      if x0 == 1 then
        ((⟨0, 15⟩ : Gspan), (⟨0, 0⟩ : Gspan))
      else
        if x0 == 10 then
          if x0 == 10 then
            ((⟨0, 199⟩ : Gspan), (⟨0, 0⟩ : Gspan))
          else
            if x0 == 13 then
              ((⟨0, 15⟩ : Gspan), (⟨0, 7⟩ : Gspan))
            else
              if x0 == 14 then
                ((⟨0, 7⟩ : Gspan), (⟨0, 0⟩ : Gspan))
              else
                if x0 == 16 then
                  ((⟨16, 255⟩ : Gspan), (⟨0, 0⟩ : Gspan))
                else
                  ((⟨0, 0⟩ : Gspan), (⟨0, 0⟩ : Gspan))
        else
          if x0 == 11 then
            ((⟨0, 199⟩ : Gspan), (⟨0, 0⟩ : Gspan))
          else
            if x0 == 13 then
              ((⟨0, 15⟩ : Gspan), (⟨0, 7⟩ : Gspan))
            else
              if x0 == 14 then
                ((⟨0, 7⟩ : Gspan), (⟨0, 0⟩ : Gspan))
              else
                if x0 == 16 then
                  ((⟨16, 255⟩ : Gspan), (⟨0, 0⟩ : Gspan))
                else
                  ((⟨0, 0⟩ : Gspan), (⟨0, 0⟩ : Gspan))
    else
      if x0 == 2 then
        ((⟨0, 15⟩ : Gspan), (⟨0, 0⟩ : Gspan))
      else
        if x0 == 10 then
          if x0 == 10 then
            ((⟨0, 199⟩ : Gspan), (⟨0, 0⟩ : Gspan))
          else
            if x0 == 13 then
              ((⟨0, 15⟩ : Gspan), (⟨0, 7⟩ : Gspan))
            else
              if x0 == 14 then
                ((⟨0, 7⟩ : Gspan), (⟨0, 0⟩ : Gspan))
              else
                if x0 == 16 then
                  ((⟨16, 255⟩ : Gspan), (⟨0, 0⟩ : Gspan))
                else
                  ((⟨0, 0⟩ : Gspan), (⟨0, 0⟩ : Gspan))
        else
          if x0 == 11 then
            ((⟨0, 199⟩ : Gspan), (⟨0, 0⟩ : Gspan))
          else
            if x0 == 13 then
              ((⟨0, 15⟩ : Gspan), (⟨0, 7⟩ : Gspan))
            else
              if x0 == 14 then
                ((⟨0, 7⟩ : Gspan), (⟨0, 0⟩ : Gspan))
              else
                if x0 == 16 then
                  ((⟨16, 255⟩ : Gspan), (⟨0, 0⟩ : Gspan))
                else
                  ((⟨0, 0⟩ : Gspan), (⟨0, 0⟩ : Gspan))
set_option maxRecDepth 100000 in
set_option maxHeartbeats 4000000 in
theorem c_op_spans {w0 w : World} {h : Gh} {L : List Ent} (x0 : Int) (H : St w0 h w L) {r : Gspan × Gspan} (hr : op_spans x0 = r) : Calls Try.prog 74 #[.int .i64 x0] w (fun e w' => ∃ v, e = .returned v ∧ v = .tuple #[.agg #[.int .i64 r.1.least, .int .i64 r.1.most], .agg #[.int .i64 r.2.least, .int .i64 r.2.most]] ∧ St w0 h w' (L)) := by
  refine calls_of (args := [.int .i64 x0]) (n := 39) (rs := [.cell 2 119, .cell 3 119]) Try.func74 rfl rfl rfl rfl rfl ?_
  unfold op_spans at hr
  refine WE.seq ?_
  refine WE.region ?_
  refine WL.does kr kr (Does.alloc H [.int .i64 0, .int .i64 0] kr fun b1 w H => ?_)
  refine WL.does kr kr (Does.alloc H [.int .i64 0, .int .i64 0] kr fun b2 w H => ?_)
  refine WL.fin 0 kr kr ?_
  refine WE.seq ?_
  refine WE.region ?_
  refine WL.sg 3 kr ?_
  refine WL.does kr kr (Does.alloc H [.int .i64 0, .int .i64 0] kr fun b3 w H => ?_)
  refine WL.does kr kr (Does.alloc H [.int .i64 0, .int .i64 0] kr fun b4 w H => ?_)
  refine WL.does kr kr (Does.alloc H [.int .i64 0, .int .i64 0] kr fun b5 w H => ?_)
  refine WL.does kr kr (Does.storeE H 2 [.int .i64 0, .int .i64 250] rfl (q := 0) kr kr kr fun w H => ?_)
  refine WL.does kr kr (Does.storeE H 1 [.int .i64 0, .int .i64 199] rfl (q := 0) kr kr kr fun w H => ?_)
  refine WL.does kr kr (Does.storeE H 0 [.int .i64 0, .int .i64 7] rfl (q := 0) kr kr kr fun w H => ?_)
  refine WL.fin 0 kr kr ?_
  refine WE.seq ?_
  refine WE.seq ?_
  refine WE.region ?_
  refine WL.fin 1 kr kr ?_
  refine WE.block ?_
  refine WE.seq ?_
  refine WE.region ?_
  refine WL.fin 2 kr kr ?_
  rcases ite_cases hr with ⟨t6, hr⟩ | ⟨t6, hr⟩
  {
  refine WE.yes kr (b := x0 == 0) kr t6 ?_
  refine WE.seq ?_
  refine WE.draws mo [2, 3, 4] (ρ' := [(2, .pointer (some ⟨b1, 0, none⟩)), (3, .pointer (some ⟨b2, 0, none⟩)), (4, .pointer (some ⟨b3, 0, none⟩))]) kr fun w e1 e2 e3 e4 => ?_
  have H := H.same e1 e2 e3 e4
  clear e1 e2 e3 e4
  refine WD.told 0 13 (.agg #[.int .i64 0, .int .i64 250]) kr kr ?_
  refine WD.told 1 14 (.agg #[.int .i64 0, .int .i64 250]) kr kr ?_
  refine WD.does 2 kr rfl (Floats.of [] [1, 0] kr .nil (.cons (.tells rfl kr rfl (.loadV H 2 rfl 0 kr kr)) (.cons (.tells rfl kr rfl (.loadV H 2 rfl 0 kr kr)) .nil))) kr kr (Does.storeE H 4 [.int .i64 0, .int .i64 250] rfl (q := 0) kr kr kr fun w H => ?_)
  refine WD.does 3 kr rfl (Floats.of [] [1] kr .nil (.cons (.tells rfl kr rfl (.loadV H 2 rfl 0 kr kr)) .nil)) kr kr (Does.storeE H 3 [.int .i64 0, .int .i64 250] rfl (q := 0) kr kr kr fun w H => ?_)
  refine WD.fin kr (Floats.of [] [] kr .nil .nil) kr kr ?_
  obtain rfl := hr
  exact WE.ret ⟨[.agg #[.int .i64 0, .int .i64 250], .agg #[.int .i64 0, .int .i64 250]], ⟨⟨kr, ⟨b1, 0, none⟩, kr, H.loadVar 4 rfl 0 kr⟩, ⟨kr, ⟨b2, 0, none⟩, kr, H.loadVar 3 rfl 0 kr⟩, trivial⟩, ⟨rfl, (H.keep 5)⟩⟩
  }
  {
  refine WE.no kr (b := x0 == 0) kr t6 ?_
  refine WE.seq ?_
  refine WE.seq ?_
  refine WE.region ?_
  refine WL.fin 2 kr kr ?_
  rcases ite_cases hr with ⟨t7, hr⟩ | ⟨t7, hr⟩
  {
  refine WE.yes kr (b := x0 == 1) kr t7 ?_
  refine WE.skip ?_
  rcases ite_cases hr with ⟨t8, hr⟩ | ⟨t8, hr⟩
  {
  refine WE.yes kr (b := x0 == 1) kr t8 ?_
  refine WE.seq ?_
  refine WE.region ?_
  refine WL.sg 2 kr ?_
  refine WL.does kr kr (Does.storeE H 4 [.int .i64 0, .int .i64 15] rfl (q := 0) kr kr kr fun w H => ?_)
  refine WL.does kr kr (Does.storeE H 3 [.int .i64 0, .int .i64 0] rfl (q := 0) kr kr kr fun w H => ?_)
  refine WL.fin 0 kr kr ?_
  obtain rfl := hr
  exact WE.ret ⟨[.agg #[.int .i64 0, .int .i64 15], .agg #[.int .i64 0, .int .i64 0]], ⟨⟨kr, ⟨b1, 0, none⟩, kr, H.loadVar 4 rfl 0 kr⟩, ⟨kr, ⟨b2, 0, none⟩, kr, H.loadVar 3 rfl 0 kr⟩, trivial⟩, ⟨rfl, (H.keep 5)⟩⟩
  }
  {
  refine WE.no kr (b := x0 == 1) kr t8 ?_
  refine WE.seq ?_
  refine WE.seq ?_
  refine WE.region ?_
  refine WL.fin 2 kr kr ?_
  rcases ite_cases hr with ⟨t9, hr⟩ | ⟨t9, hr⟩
  {
  refine WE.yes kr (b := x0 == 10) kr t9 ?_
  refine WE.skip ?_
  rcases ite_cases hr with ⟨t10, hr⟩ | ⟨t10, hr⟩
  {
  refine WE.yes kr (b := x0 == 10) kr t10 ?_
  refine WE.seq ?_
  refine WE.region ?_
  refine WL.does kr kr (Does.loadV H 1 rfl 0 kr kr ?_)
  refine WL.sg 1 kr ?_
  refine WL.does kr kr (Does.storeE H 4 [.int .i64 0, .int .i64 199] rfl (q := 0) kr kr kr fun w H => ?_)
  refine WL.does kr kr (Does.storeE H 3 [.int .i64 0, .int .i64 0] rfl (q := 0) kr kr kr fun w H => ?_)
  refine WL.fin 0 kr kr ?_
  obtain rfl := hr
  exact WE.ret ⟨[.agg #[.int .i64 0, .int .i64 199], .agg #[.int .i64 0, .int .i64 0]], ⟨⟨kr, ⟨b1, 0, none⟩, kr, H.loadVar 4 rfl 0 kr⟩, ⟨kr, ⟨b2, 0, none⟩, kr, H.loadVar 3 rfl 0 kr⟩, trivial⟩, ⟨rfl, (H.keep 5)⟩⟩
  }
  {
  refine WE.no kr (b := x0 == 10) kr t10 ?_
  refine WE.seq ?_
  refine WE.region ?_
  refine WL.fin 2 kr kr ?_
  rcases ite_cases hr with ⟨t11, hr⟩ | ⟨t11, hr⟩
  {
  refine WE.yes kr (b := x0 == 13) kr t11 ?_
  refine WE.seq ?_
  refine WE.draws mo [2, 3, 6] (ρ' := [(2, .pointer (some ⟨b1, 0, none⟩)), (3, .pointer (some ⟨b2, 0, none⟩)), (6, .pointer (some ⟨b5, 0, none⟩))]) kr fun w e1 e2 e3 e4 => ?_
  have H := H.same e1 e2 e3 e4
  clear e1 e2 e3 e4
  refine WD.know [0] kr ?_
  refine WD.told 1 28 (.agg #[.int .i64 0, .int .i64 7]) kr kr ?_
  refine WD.does 2 kr rfl (Floats.of [0] [1] kr (Floats.pure _ kr kr) (.cons (.tells rfl kr rfl (.loadV H 0 rfl 0 kr kr)) .nil)) kr kr (Does.storeE H 4 [.int .i64 0, .int .i64 15] rfl (q := 0) kr kr kr fun w H => ?_)
  refine WD.does 3 kr rfl (Floats.of [] [1] kr .nil (.cons (.tells rfl kr rfl (.loadV H 0 rfl 0 kr kr)) .nil)) kr kr (Does.storeE H 3 [.int .i64 0, .int .i64 7] rfl (q := 0) kr kr kr fun w H => ?_)
  refine WD.fin kr (Floats.of [] [] kr .nil .nil) kr kr ?_
  obtain rfl := hr
  exact WE.ret ⟨[.agg #[.int .i64 0, .int .i64 15], .agg #[.int .i64 0, .int .i64 7]], ⟨⟨kr, ⟨b1, 0, none⟩, kr, H.loadVar 4 rfl 0 kr⟩, ⟨kr, ⟨b2, 0, none⟩, kr, H.loadVar 3 rfl 0 kr⟩, trivial⟩, ⟨rfl, (H.keep 5)⟩⟩
  }
  {
  refine WE.no kr (b := x0 == 13) kr t11 ?_
  refine WE.seq ?_
  refine WE.region ?_
  refine WL.fin 2 kr kr ?_
  rcases ite_cases hr with ⟨t12, hr⟩ | ⟨t12, hr⟩
  {
  refine WE.yes kr (b := x0 == 14) kr t12 ?_
  refine WE.seq ?_
  refine WE.region ?_
  refine WL.does kr kr (Does.loadV H 0 rfl 0 kr kr ?_)
  refine WL.sg 1 kr ?_
  refine WL.does kr kr (Does.storeE H 4 [.int .i64 0, .int .i64 7] rfl (q := 0) kr kr kr fun w H => ?_)
  refine WL.does kr kr (Does.storeE H 3 [.int .i64 0, .int .i64 0] rfl (q := 0) kr kr kr fun w H => ?_)
  refine WL.fin 0 kr kr ?_
  obtain rfl := hr
  exact WE.ret ⟨[.agg #[.int .i64 0, .int .i64 7], .agg #[.int .i64 0, .int .i64 0]], ⟨⟨kr, ⟨b1, 0, none⟩, kr, H.loadVar 4 rfl 0 kr⟩, ⟨kr, ⟨b2, 0, none⟩, kr, H.loadVar 3 rfl 0 kr⟩, trivial⟩, ⟨rfl, (H.keep 5)⟩⟩
  }
  {
  refine WE.no kr (b := x0 == 14) kr t12 ?_
  refine WE.seq ?_
  refine WE.region ?_
  refine WL.fin 2 kr kr ?_
  rcases ite_cases hr with ⟨t13, hr⟩ | ⟨t13, hr⟩
  {
  refine WE.yes kr (b := x0 == 16) kr t13 ?_
  refine WE.seq ?_
  refine WE.region ?_
  refine WL.sg 2 kr ?_
  refine WL.does kr kr (Does.storeE H 4 [.int .i64 16, .int .i64 255] rfl (q := 0) kr kr kr fun w H => ?_)
  refine WL.does kr kr (Does.storeE H 3 [.int .i64 0, .int .i64 0] rfl (q := 0) kr kr kr fun w H => ?_)
  refine WL.fin 0 kr kr ?_
  obtain rfl := hr
  exact WE.ret ⟨[.agg #[.int .i64 16, .int .i64 255], .agg #[.int .i64 0, .int .i64 0]], ⟨⟨kr, ⟨b1, 0, none⟩, kr, H.loadVar 4 rfl 0 kr⟩, ⟨kr, ⟨b2, 0, none⟩, kr, H.loadVar 3 rfl 0 kr⟩, trivial⟩, ⟨rfl, (H.keep 5)⟩⟩
  }
  {
  refine WE.no kr (b := x0 == 16) kr t13 ?_
  refine WE.skip ?_
  refine WE.seq ?_
  refine WE.region ?_
  refine WL.sg 2 kr ?_
  refine WL.does kr kr (Does.storeE H 4 [.int .i64 0, .int .i64 0] rfl (q := 0) kr kr kr fun w H => ?_)
  refine WL.does kr kr (Does.storeE H 3 [.int .i64 0, .int .i64 0] rfl (q := 0) kr kr kr fun w H => ?_)
  refine WL.fin 0 kr kr ?_
  obtain rfl := hr
  exact WE.ret ⟨[.agg #[.int .i64 0, .int .i64 0], .agg #[.int .i64 0, .int .i64 0]], ⟨⟨kr, ⟨b1, 0, none⟩, kr, H.loadVar 4 rfl 0 kr⟩, ⟨kr, ⟨b2, 0, none⟩, kr, H.loadVar 3 rfl 0 kr⟩, trivial⟩, ⟨rfl, (H.keep 5)⟩⟩
  }
  }
  }
  }
  }
  {
  refine WE.no kr (b := x0 == 10) kr t9 ?_
  refine WE.region ?_
  refine WL.fin 2 kr kr ?_
  rcases ite_cases hr with ⟨t14, hr⟩ | ⟨t14, hr⟩
  {
  refine WE.yes kr (b := x0 == 11) kr t14 ?_
  refine WE.seq ?_
  refine WE.region ?_
  refine WL.does kr kr (Does.loadV H 1 rfl 0 kr kr ?_)
  refine WL.sg 1 kr ?_
  refine WL.does kr kr (Does.storeE H 4 [.int .i64 0, .int .i64 199] rfl (q := 0) kr kr kr fun w H => ?_)
  refine WL.does kr kr (Does.storeE H 3 [.int .i64 0, .int .i64 0] rfl (q := 0) kr kr kr fun w H => ?_)
  refine WL.fin 0 kr kr ?_
  obtain rfl := hr
  exact WE.ret ⟨[.agg #[.int .i64 0, .int .i64 199], .agg #[.int .i64 0, .int .i64 0]], ⟨⟨kr, ⟨b1, 0, none⟩, kr, H.loadVar 4 rfl 0 kr⟩, ⟨kr, ⟨b2, 0, none⟩, kr, H.loadVar 3 rfl 0 kr⟩, trivial⟩, ⟨rfl, (H.keep 5)⟩⟩
  }
  {
  refine WE.no kr (b := x0 == 11) kr t14 ?_
  refine WE.seq ?_
  refine WE.region ?_
  refine WL.fin 2 kr kr ?_
  rcases ite_cases hr with ⟨t15, hr⟩ | ⟨t15, hr⟩
  {
  refine WE.yes kr (b := x0 == 13) kr t15 ?_
  refine WE.seq ?_
  refine WE.draws mo [2, 3, 6] (ρ' := [(2, .pointer (some ⟨b1, 0, none⟩)), (3, .pointer (some ⟨b2, 0, none⟩)), (6, .pointer (some ⟨b5, 0, none⟩))]) kr fun w e1 e2 e3 e4 => ?_
  have H := H.same e1 e2 e3 e4
  clear e1 e2 e3 e4
  refine WD.know [0] kr ?_
  refine WD.told 1 28 (.agg #[.int .i64 0, .int .i64 7]) kr kr ?_
  refine WD.does 2 kr rfl (Floats.of [0] [1] kr (Floats.pure _ kr kr) (.cons (.tells rfl kr rfl (.loadV H 0 rfl 0 kr kr)) .nil)) kr kr (Does.storeE H 4 [.int .i64 0, .int .i64 15] rfl (q := 0) kr kr kr fun w H => ?_)
  refine WD.does 3 kr rfl (Floats.of [] [1] kr .nil (.cons (.tells rfl kr rfl (.loadV H 0 rfl 0 kr kr)) .nil)) kr kr (Does.storeE H 3 [.int .i64 0, .int .i64 7] rfl (q := 0) kr kr kr fun w H => ?_)
  refine WD.fin kr (Floats.of [] [] kr .nil .nil) kr kr ?_
  obtain rfl := hr
  exact WE.ret ⟨[.agg #[.int .i64 0, .int .i64 15], .agg #[.int .i64 0, .int .i64 7]], ⟨⟨kr, ⟨b1, 0, none⟩, kr, H.loadVar 4 rfl 0 kr⟩, ⟨kr, ⟨b2, 0, none⟩, kr, H.loadVar 3 rfl 0 kr⟩, trivial⟩, ⟨rfl, (H.keep 5)⟩⟩
  }
  {
  refine WE.no kr (b := x0 == 13) kr t15 ?_
  refine WE.seq ?_
  refine WE.region ?_
  refine WL.fin 2 kr kr ?_
  rcases ite_cases hr with ⟨t16, hr⟩ | ⟨t16, hr⟩
  {
  refine WE.yes kr (b := x0 == 14) kr t16 ?_
  refine WE.seq ?_
  refine WE.region ?_
  refine WL.does kr kr (Does.loadV H 0 rfl 0 kr kr ?_)
  refine WL.sg 1 kr ?_
  refine WL.does kr kr (Does.storeE H 4 [.int .i64 0, .int .i64 7] rfl (q := 0) kr kr kr fun w H => ?_)
  refine WL.does kr kr (Does.storeE H 3 [.int .i64 0, .int .i64 0] rfl (q := 0) kr kr kr fun w H => ?_)
  refine WL.fin 0 kr kr ?_
  obtain rfl := hr
  exact WE.ret ⟨[.agg #[.int .i64 0, .int .i64 7], .agg #[.int .i64 0, .int .i64 0]], ⟨⟨kr, ⟨b1, 0, none⟩, kr, H.loadVar 4 rfl 0 kr⟩, ⟨kr, ⟨b2, 0, none⟩, kr, H.loadVar 3 rfl 0 kr⟩, trivial⟩, ⟨rfl, (H.keep 5)⟩⟩
  }
  {
  refine WE.no kr (b := x0 == 14) kr t16 ?_
  refine WE.seq ?_
  refine WE.region ?_
  refine WL.fin 2 kr kr ?_
  rcases ite_cases hr with ⟨t17, hr⟩ | ⟨t17, hr⟩
  {
  refine WE.yes kr (b := x0 == 16) kr t17 ?_
  refine WE.seq ?_
  refine WE.region ?_
  refine WL.sg 2 kr ?_
  refine WL.does kr kr (Does.storeE H 4 [.int .i64 16, .int .i64 255] rfl (q := 0) kr kr kr fun w H => ?_)
  refine WL.does kr kr (Does.storeE H 3 [.int .i64 0, .int .i64 0] rfl (q := 0) kr kr kr fun w H => ?_)
  refine WL.fin 0 kr kr ?_
  obtain rfl := hr
  exact WE.ret ⟨[.agg #[.int .i64 16, .int .i64 255], .agg #[.int .i64 0, .int .i64 0]], ⟨⟨kr, ⟨b1, 0, none⟩, kr, H.loadVar 4 rfl 0 kr⟩, ⟨kr, ⟨b2, 0, none⟩, kr, H.loadVar 3 rfl 0 kr⟩, trivial⟩, ⟨rfl, (H.keep 5)⟩⟩
  }
  {
  refine WE.no kr (b := x0 == 16) kr t17 ?_
  refine WE.skip ?_
  refine WE.seq ?_
  refine WE.region ?_
  refine WL.sg 2 kr ?_
  refine WL.does kr kr (Does.storeE H 4 [.int .i64 0, .int .i64 0] rfl (q := 0) kr kr kr fun w H => ?_)
  refine WL.does kr kr (Does.storeE H 3 [.int .i64 0, .int .i64 0] rfl (q := 0) kr kr kr fun w H => ?_)
  refine WL.fin 0 kr kr ?_
  obtain rfl := hr
  exact WE.ret ⟨[.agg #[.int .i64 0, .int .i64 0], .agg #[.int .i64 0, .int .i64 0]], ⟨⟨kr, ⟨b1, 0, none⟩, kr, H.loadVar 4 rfl 0 kr⟩, ⟨kr, ⟨b2, 0, none⟩, kr, H.loadVar 3 rfl 0 kr⟩, trivial⟩, ⟨rfl, (H.keep 5)⟩⟩
  }
  }
  }
  }
  }
  }
  }
  {
  refine WE.no kr (b := x0 == 1) kr t7 ?_
  refine WE.region ?_
  refine WL.fin 2 kr kr ?_
  rcases ite_cases hr with ⟨t18, hr⟩ | ⟨t18, hr⟩
  {
  refine WE.yes kr (b := x0 == 2) kr t18 ?_
  refine WE.seq ?_
  refine WE.region ?_
  refine WL.sg 2 kr ?_
  refine WL.does kr kr (Does.storeE H 4 [.int .i64 0, .int .i64 15] rfl (q := 0) kr kr kr fun w H => ?_)
  refine WL.does kr kr (Does.storeE H 3 [.int .i64 0, .int .i64 0] rfl (q := 0) kr kr kr fun w H => ?_)
  refine WL.fin 0 kr kr ?_
  obtain rfl := hr
  exact WE.ret ⟨[.agg #[.int .i64 0, .int .i64 15], .agg #[.int .i64 0, .int .i64 0]], ⟨⟨kr, ⟨b1, 0, none⟩, kr, H.loadVar 4 rfl 0 kr⟩, ⟨kr, ⟨b2, 0, none⟩, kr, H.loadVar 3 rfl 0 kr⟩, trivial⟩, ⟨rfl, (H.keep 5)⟩⟩
  }
  {
  refine WE.no kr (b := x0 == 2) kr t18 ?_
  refine WE.seq ?_
  refine WE.seq ?_
  refine WE.region ?_
  refine WL.fin 2 kr kr ?_
  rcases ite_cases hr with ⟨t19, hr⟩ | ⟨t19, hr⟩
  {
  refine WE.yes kr (b := x0 == 10) kr t19 ?_
  refine WE.skip ?_
  rcases ite_cases hr with ⟨t20, hr⟩ | ⟨t20, hr⟩
  {
  refine WE.yes kr (b := x0 == 10) kr t20 ?_
  refine WE.seq ?_
  refine WE.region ?_
  refine WL.does kr kr (Does.loadV H 1 rfl 0 kr kr ?_)
  refine WL.sg 1 kr ?_
  refine WL.does kr kr (Does.storeE H 4 [.int .i64 0, .int .i64 199] rfl (q := 0) kr kr kr fun w H => ?_)
  refine WL.does kr kr (Does.storeE H 3 [.int .i64 0, .int .i64 0] rfl (q := 0) kr kr kr fun w H => ?_)
  refine WL.fin 0 kr kr ?_
  obtain rfl := hr
  exact WE.ret ⟨[.agg #[.int .i64 0, .int .i64 199], .agg #[.int .i64 0, .int .i64 0]], ⟨⟨kr, ⟨b1, 0, none⟩, kr, H.loadVar 4 rfl 0 kr⟩, ⟨kr, ⟨b2, 0, none⟩, kr, H.loadVar 3 rfl 0 kr⟩, trivial⟩, ⟨rfl, (H.keep 5)⟩⟩
  }
  {
  refine WE.no kr (b := x0 == 10) kr t20 ?_
  refine WE.seq ?_
  refine WE.region ?_
  refine WL.fin 2 kr kr ?_
  rcases ite_cases hr with ⟨t21, hr⟩ | ⟨t21, hr⟩
  {
  refine WE.yes kr (b := x0 == 13) kr t21 ?_
  refine WE.seq ?_
  refine WE.draws mo [2, 3, 6] (ρ' := [(2, .pointer (some ⟨b1, 0, none⟩)), (3, .pointer (some ⟨b2, 0, none⟩)), (6, .pointer (some ⟨b5, 0, none⟩))]) kr fun w e1 e2 e3 e4 => ?_
  have H := H.same e1 e2 e3 e4
  clear e1 e2 e3 e4
  refine WD.know [0] kr ?_
  refine WD.told 1 28 (.agg #[.int .i64 0, .int .i64 7]) kr kr ?_
  refine WD.does 2 kr rfl (Floats.of [0] [1] kr (Floats.pure _ kr kr) (.cons (.tells rfl kr rfl (.loadV H 0 rfl 0 kr kr)) .nil)) kr kr (Does.storeE H 4 [.int .i64 0, .int .i64 15] rfl (q := 0) kr kr kr fun w H => ?_)
  refine WD.does 3 kr rfl (Floats.of [] [1] kr .nil (.cons (.tells rfl kr rfl (.loadV H 0 rfl 0 kr kr)) .nil)) kr kr (Does.storeE H 3 [.int .i64 0, .int .i64 7] rfl (q := 0) kr kr kr fun w H => ?_)
  refine WD.fin kr (Floats.of [] [] kr .nil .nil) kr kr ?_
  obtain rfl := hr
  exact WE.ret ⟨[.agg #[.int .i64 0, .int .i64 15], .agg #[.int .i64 0, .int .i64 7]], ⟨⟨kr, ⟨b1, 0, none⟩, kr, H.loadVar 4 rfl 0 kr⟩, ⟨kr, ⟨b2, 0, none⟩, kr, H.loadVar 3 rfl 0 kr⟩, trivial⟩, ⟨rfl, (H.keep 5)⟩⟩
  }
  {
  refine WE.no kr (b := x0 == 13) kr t21 ?_
  refine WE.seq ?_
  refine WE.region ?_
  refine WL.fin 2 kr kr ?_
  rcases ite_cases hr with ⟨t22, hr⟩ | ⟨t22, hr⟩
  {
  refine WE.yes kr (b := x0 == 14) kr t22 ?_
  refine WE.seq ?_
  refine WE.region ?_
  refine WL.does kr kr (Does.loadV H 0 rfl 0 kr kr ?_)
  refine WL.sg 1 kr ?_
  refine WL.does kr kr (Does.storeE H 4 [.int .i64 0, .int .i64 7] rfl (q := 0) kr kr kr fun w H => ?_)
  refine WL.does kr kr (Does.storeE H 3 [.int .i64 0, .int .i64 0] rfl (q := 0) kr kr kr fun w H => ?_)
  refine WL.fin 0 kr kr ?_
  obtain rfl := hr
  exact WE.ret ⟨[.agg #[.int .i64 0, .int .i64 7], .agg #[.int .i64 0, .int .i64 0]], ⟨⟨kr, ⟨b1, 0, none⟩, kr, H.loadVar 4 rfl 0 kr⟩, ⟨kr, ⟨b2, 0, none⟩, kr, H.loadVar 3 rfl 0 kr⟩, trivial⟩, ⟨rfl, (H.keep 5)⟩⟩
  }
  {
  refine WE.no kr (b := x0 == 14) kr t22 ?_
  refine WE.seq ?_
  refine WE.region ?_
  refine WL.fin 2 kr kr ?_
  rcases ite_cases hr with ⟨t23, hr⟩ | ⟨t23, hr⟩
  {
  refine WE.yes kr (b := x0 == 16) kr t23 ?_
  refine WE.seq ?_
  refine WE.region ?_
  refine WL.sg 2 kr ?_
  refine WL.does kr kr (Does.storeE H 4 [.int .i64 16, .int .i64 255] rfl (q := 0) kr kr kr fun w H => ?_)
  refine WL.does kr kr (Does.storeE H 3 [.int .i64 0, .int .i64 0] rfl (q := 0) kr kr kr fun w H => ?_)
  refine WL.fin 0 kr kr ?_
  obtain rfl := hr
  exact WE.ret ⟨[.agg #[.int .i64 16, .int .i64 255], .agg #[.int .i64 0, .int .i64 0]], ⟨⟨kr, ⟨b1, 0, none⟩, kr, H.loadVar 4 rfl 0 kr⟩, ⟨kr, ⟨b2, 0, none⟩, kr, H.loadVar 3 rfl 0 kr⟩, trivial⟩, ⟨rfl, (H.keep 5)⟩⟩
  }
  {
  refine WE.no kr (b := x0 == 16) kr t23 ?_
  refine WE.skip ?_
  refine WE.seq ?_
  refine WE.region ?_
  refine WL.sg 2 kr ?_
  refine WL.does kr kr (Does.storeE H 4 [.int .i64 0, .int .i64 0] rfl (q := 0) kr kr kr fun w H => ?_)
  refine WL.does kr kr (Does.storeE H 3 [.int .i64 0, .int .i64 0] rfl (q := 0) kr kr kr fun w H => ?_)
  refine WL.fin 0 kr kr ?_
  obtain rfl := hr
  exact WE.ret ⟨[.agg #[.int .i64 0, .int .i64 0], .agg #[.int .i64 0, .int .i64 0]], ⟨⟨kr, ⟨b1, 0, none⟩, kr, H.loadVar 4 rfl 0 kr⟩, ⟨kr, ⟨b2, 0, none⟩, kr, H.loadVar 3 rfl 0 kr⟩, trivial⟩, ⟨rfl, (H.keep 5)⟩⟩
  }
  }
  }
  }
  }
  {
  refine WE.no kr (b := x0 == 10) kr t19 ?_
  refine WE.region ?_
  refine WL.fin 2 kr kr ?_
  rcases ite_cases hr with ⟨t24, hr⟩ | ⟨t24, hr⟩
  {
  refine WE.yes kr (b := x0 == 11) kr t24 ?_
  refine WE.seq ?_
  refine WE.region ?_
  refine WL.does kr kr (Does.loadV H 1 rfl 0 kr kr ?_)
  refine WL.sg 1 kr ?_
  refine WL.does kr kr (Does.storeE H 4 [.int .i64 0, .int .i64 199] rfl (q := 0) kr kr kr fun w H => ?_)
  refine WL.does kr kr (Does.storeE H 3 [.int .i64 0, .int .i64 0] rfl (q := 0) kr kr kr fun w H => ?_)
  refine WL.fin 0 kr kr ?_
  obtain rfl := hr
  exact WE.ret ⟨[.agg #[.int .i64 0, .int .i64 199], .agg #[.int .i64 0, .int .i64 0]], ⟨⟨kr, ⟨b1, 0, none⟩, kr, H.loadVar 4 rfl 0 kr⟩, ⟨kr, ⟨b2, 0, none⟩, kr, H.loadVar 3 rfl 0 kr⟩, trivial⟩, ⟨rfl, (H.keep 5)⟩⟩
  }
  {
  refine WE.no kr (b := x0 == 11) kr t24 ?_
  refine WE.seq ?_
  refine WE.region ?_
  refine WL.fin 2 kr kr ?_
  rcases ite_cases hr with ⟨t25, hr⟩ | ⟨t25, hr⟩
  {
  refine WE.yes kr (b := x0 == 13) kr t25 ?_
  refine WE.seq ?_
  refine WE.draws mo [2, 3, 6] (ρ' := [(2, .pointer (some ⟨b1, 0, none⟩)), (3, .pointer (some ⟨b2, 0, none⟩)), (6, .pointer (some ⟨b5, 0, none⟩))]) kr fun w e1 e2 e3 e4 => ?_
  have H := H.same e1 e2 e3 e4
  clear e1 e2 e3 e4
  refine WD.know [0] kr ?_
  refine WD.told 1 28 (.agg #[.int .i64 0, .int .i64 7]) kr kr ?_
  refine WD.does 2 kr rfl (Floats.of [0] [1] kr (Floats.pure _ kr kr) (.cons (.tells rfl kr rfl (.loadV H 0 rfl 0 kr kr)) .nil)) kr kr (Does.storeE H 4 [.int .i64 0, .int .i64 15] rfl (q := 0) kr kr kr fun w H => ?_)
  refine WD.does 3 kr rfl (Floats.of [] [1] kr .nil (.cons (.tells rfl kr rfl (.loadV H 0 rfl 0 kr kr)) .nil)) kr kr (Does.storeE H 3 [.int .i64 0, .int .i64 7] rfl (q := 0) kr kr kr fun w H => ?_)
  refine WD.fin kr (Floats.of [] [] kr .nil .nil) kr kr ?_
  obtain rfl := hr
  exact WE.ret ⟨[.agg #[.int .i64 0, .int .i64 15], .agg #[.int .i64 0, .int .i64 7]], ⟨⟨kr, ⟨b1, 0, none⟩, kr, H.loadVar 4 rfl 0 kr⟩, ⟨kr, ⟨b2, 0, none⟩, kr, H.loadVar 3 rfl 0 kr⟩, trivial⟩, ⟨rfl, (H.keep 5)⟩⟩
  }
  {
  refine WE.no kr (b := x0 == 13) kr t25 ?_
  refine WE.seq ?_
  refine WE.region ?_
  refine WL.fin 2 kr kr ?_
  rcases ite_cases hr with ⟨t26, hr⟩ | ⟨t26, hr⟩
  {
  refine WE.yes kr (b := x0 == 14) kr t26 ?_
  refine WE.seq ?_
  refine WE.region ?_
  refine WL.does kr kr (Does.loadV H 0 rfl 0 kr kr ?_)
  refine WL.sg 1 kr ?_
  refine WL.does kr kr (Does.storeE H 4 [.int .i64 0, .int .i64 7] rfl (q := 0) kr kr kr fun w H => ?_)
  refine WL.does kr kr (Does.storeE H 3 [.int .i64 0, .int .i64 0] rfl (q := 0) kr kr kr fun w H => ?_)
  refine WL.fin 0 kr kr ?_
  obtain rfl := hr
  exact WE.ret ⟨[.agg #[.int .i64 0, .int .i64 7], .agg #[.int .i64 0, .int .i64 0]], ⟨⟨kr, ⟨b1, 0, none⟩, kr, H.loadVar 4 rfl 0 kr⟩, ⟨kr, ⟨b2, 0, none⟩, kr, H.loadVar 3 rfl 0 kr⟩, trivial⟩, ⟨rfl, (H.keep 5)⟩⟩
  }
  {
  refine WE.no kr (b := x0 == 14) kr t26 ?_
  refine WE.seq ?_
  refine WE.region ?_
  refine WL.fin 2 kr kr ?_
  rcases ite_cases hr with ⟨t27, hr⟩ | ⟨t27, hr⟩
  {
  refine WE.yes kr (b := x0 == 16) kr t27 ?_
  refine WE.seq ?_
  refine WE.region ?_
  refine WL.sg 2 kr ?_
  refine WL.does kr kr (Does.storeE H 4 [.int .i64 16, .int .i64 255] rfl (q := 0) kr kr kr fun w H => ?_)
  refine WL.does kr kr (Does.storeE H 3 [.int .i64 0, .int .i64 0] rfl (q := 0) kr kr kr fun w H => ?_)
  refine WL.fin 0 kr kr ?_
  obtain rfl := hr
  exact WE.ret ⟨[.agg #[.int .i64 16, .int .i64 255], .agg #[.int .i64 0, .int .i64 0]], ⟨⟨kr, ⟨b1, 0, none⟩, kr, H.loadVar 4 rfl 0 kr⟩, ⟨kr, ⟨b2, 0, none⟩, kr, H.loadVar 3 rfl 0 kr⟩, trivial⟩, ⟨rfl, (H.keep 5)⟩⟩
  }
  {
  refine WE.no kr (b := x0 == 16) kr t27 ?_
  refine WE.skip ?_
  refine WE.seq ?_
  refine WE.region ?_
  refine WL.sg 2 kr ?_
  refine WL.does kr kr (Does.storeE H 4 [.int .i64 0, .int .i64 0] rfl (q := 0) kr kr kr fun w H => ?_)
  refine WL.does kr kr (Does.storeE H 3 [.int .i64 0, .int .i64 0] rfl (q := 0) kr kr kr fun w H => ?_)
  refine WL.fin 0 kr kr ?_
  obtain rfl := hr
  exact WE.ret ⟨[.agg #[.int .i64 0, .int .i64 0], .agg #[.int .i64 0, .int .i64 0]], ⟨⟨kr, ⟨b1, 0, none⟩, kr, H.loadVar 4 rfl 0 kr⟩, ⟨kr, ⟨b2, 0, none⟩, kr, H.loadVar 3 rfl 0 kr⟩, trivial⟩, ⟨rfl, (H.keep 5)⟩⟩
  }
  }
  }
  }
  }
  }
  }
  }
def op_span_has (x0 : Gspan) (x1 : Int) : Bool :=
  bnd (
      if decide (x1 ≥ x0.least) then
        decide (x1 ≤ x0.most)
      else
        false) fun y2 =>
  y2
set_option maxRecDepth 100000 in
set_option maxHeartbeats 4000000 in
theorem c_op_span_has {w0 w : World} {h : Gh} {L : List Ent} (x0 : Gspan) (x1 : Int) (H : St w0 h w L) {r : Bool} (hr : op_span_has x0 x1 = r) : Calls Try.prog 75 #[.agg #[.int .i64 x0.least, .int .i64 x0.most], .int .i64 x1] w (fun e w' => ∃ v, e = .returned v ∧ v = .bool r ∧ St w0 h w' (L)) := by
  refine calls_of (args := [.agg #[.int .i64 x0.least, .int .i64 x0.most], .int .i64 x1]) (n := 15) (rs := [.tmp 4]) Try.func75 rfl rfl rfl rfl rfl ?_
  unfold op_span_has at hr
  refine WE.seq ?_
  refine WE.region ?_
  refine WL.does kr kr (Does.box H [.int .i64 x0.least, .int .i64 x0.most] kr fun b1 w H => ?_)
  refine WL.fin 1 kr kr ?_
  refine WE.seq ?_
  refine WE.region ?_
  refine WL.sg 2 kr ?_
  refine WL.does kr kr (Does.loadV H 0 rfl 0 kr kr ?_)
  refine WL.sg 2 kr ?_
  obtain ⟨y2, hy2, hr⟩ := bnd_cases hr
  refine WL.join 5 (fun (_ : Unit) => [(14, .bool y2)]) (fun (_ : Unit) w => St w0 h w (var b1 [.int .i64 x0.least, .int .i64 x0.most] 119 :: L)) ?_ (fun hk_y2 => ?_)
  {
  rintro _ w H
  refine WL.fin 1 kr kr ?_
  obtain rfl := hr
  exact WE.ret ⟨[.bool y2], ⟨⟨kr, kr⟩, trivial⟩, ⟨rfl, (H.keep 1)⟩⟩
  }
  rcases ite_cases hy2 with ⟨ty2, hy2⟩ | ⟨ty2, hy2⟩
  {
  refine WL.known 9 ty2 kr kr ?_
  refine WL.sg 2 kr ?_
  refine WL.does kr kr (Does.loadV H 0 rfl 1 kr kr ?_)
  refine WL.sg 2 kr ?_
  obtain rfl := hy2
  exact WL.live [14] kr (hk_y2 () _ H)
  }
  {
  refine WL.known 9 ty2 kr kr ?_
  refine WL.sg 5 kr ?_
  obtain rfl := hy2
  exact WL.live [14] kr (hk_y2 () _ H)
  }
def op_May (x0 : GInstr) : Bool :=
  bnd (op_spans x0.Op) fun y2 =>
  bnd (
      if decide (x0.Op ≥ 0) then
        decide (x0.Op < 17)
      else
        false) fun y5 =>
  bnd (
      if y5 then
        bnd (op_span_has y2.1 x0.A) fun y11 =>
        y11
      else
        false) fun y6 =>
  bnd (
      if y6 then
        bnd (op_span_has y2.2 x0.B) fun y10 =>
        y10
      else
        false) fun y8 =>
  y8
set_option maxRecDepth 100000 in
set_option maxHeartbeats 4000000 in
theorem c_op_May {w0 w : World} {h : Gh} {L : List Ent} (x0 : GInstr) (H : St w0 h w L) {r : Bool} (hr : op_May x0 = r) : Calls Try.prog 48 #[.agg #[.int .i64 x0.Op, .int .i64 x0.A, .int .i64 x0.B]] w (fun e w' => ∃ v, e = .returned v ∧ v = .bool r ∧ St w0 h w' (L)) := by
  refine calls_of (args := [.agg #[.int .i64 x0.Op, .int .i64 x0.A, .int .i64 x0.B]]) (n := 31) (rs := [.tmp 2]) Try.func48 rfl rfl rfl rfl rfl ?_
  unfold op_May at hr
  refine WE.seq ?_
  refine WE.region ?_
  refine WL.does kr kr (Does.box H [.int .i64 x0.Op, .int .i64 x0.A, .int .i64 x0.B] kr fun b1 w H => ?_)
  refine WL.fin 1 kr kr ?_
  refine WE.seq ?_
  refine WE.region ?_
  refine WL.sg 1 kr ?_
  refine WL.does kr kr (Does.loadV H 0 rfl 0 kr kr ?_)
  obtain ⟨y2, q2, hr⟩ := bnd_cases hr
  refine WL.does kr kr (Does.call (c_op_spans x0.Op H q2) kr ?_)
  rintro _ w ⟨rfl, H⟩
  refine WL.sg 3 kr ?_
  refine WL.does kr kr (Does.alloc H [.int .i64 0, .int .i64 0] kr fun b3 w H => ?_)
  refine WL.does kr kr (Does.alloc H [.int .i64 0, .int .i64 0] kr fun b4 w H => ?_)
  refine WL.does kr kr (Does.storeE H 1 [.int .i64 y2.1.least, .int .i64 y2.1.most] rfl (q := 0) kr kr kr fun w H => ?_)
  refine WL.does kr kr (Does.storeE H 0 [.int .i64 y2.2.least, .int .i64 y2.2.most] rfl (q := 0) kr kr kr fun w H => ?_)
  refine WL.fin 0 kr kr ?_
  refine WE.seq ?_
  refine WE.region ?_
  refine WL.sg 1 kr ?_
  refine WL.does kr kr (Does.loadV H 2 rfl 0 kr kr ?_)
  refine WL.sg 2 kr ?_
  obtain ⟨y5, hy5, hr⟩ := bnd_cases hr
  refine WL.join 4 (fun (_ : Unit) => [(1, .pointer (some ⟨b1, 0, none⟩)), (3, .pointer (some ⟨b3, 0, none⟩)), (4, .pointer (some ⟨b4, 0, none⟩)), (18, .bool y5)]) (fun (_ : Unit) w => St w0 h w (var b4 [.int .i64 y2.2.least, .int .i64 y2.2.most] 119 :: var b3 [.int .i64 y2.1.least, .int .i64 y2.1.most] 119 :: var b1 [.int .i64 x0.Op, .int .i64 x0.A, .int .i64 x0.B] 71 :: L)) ?_ (fun hk_y5 => ?_)
  {
  rintro _ w H
  refine WL.sg 1 kr ?_
  obtain ⟨y6, hy6, hr⟩ := bnd_cases hr
  refine WL.join 5 (fun (_ : Unit) => [(1, .pointer (some ⟨b1, 0, none⟩)), (4, .pointer (some ⟨b4, 0, none⟩)), (24, .bool y6)]) (fun (_ : Unit) w => St w0 h w (var b4 [.int .i64 y2.2.least, .int .i64 y2.2.most] 119 :: var b3 [.int .i64 y2.1.least, .int .i64 y2.1.most] 119 :: var b1 [.int .i64 x0.Op, .int .i64 x0.A, .int .i64 x0.B] 71 :: L)) ?_ (fun hk_y6 => ?_)
  {
  rintro _ w H
  refine WL.sg 1 kr ?_
  obtain ⟨y8, hy8, hr⟩ := bnd_cases hr
  refine WL.join 5 (fun (_ : Unit) => [(30, .bool y8)]) (fun (_ : Unit) w => St w0 h w (var b4 [.int .i64 y2.2.least, .int .i64 y2.2.most] 119 :: var b3 [.int .i64 y2.1.least, .int .i64 y2.1.most] 119 :: var b1 [.int .i64 x0.Op, .int .i64 x0.A, .int .i64 x0.B] 71 :: L)) ?_ (fun hk_y8 => ?_)
  {
  rintro _ w H
  refine WL.fin 1 kr kr ?_
  obtain rfl := hr
  exact WE.ret ⟨[.bool y8], ⟨⟨kr, kr⟩, trivial⟩, ⟨rfl, (H.keep 3)⟩⟩
  }
  rcases ite_cases hy8 with ⟨ty8, hy8⟩ | ⟨ty8, hy8⟩
  {
  refine WL.known 25 ty8 kr kr ?_
  refine WL.does kr kr (Does.loadV H 0 rfl 0 kr kr ?_)
  refine WL.sg 1 kr ?_
  refine WL.does kr kr (Does.loadV H 2 rfl 2 kr kr ?_)
  obtain ⟨y10, q10, hy8⟩ := bnd_cases hy8
  refine WL.does kr kr (Does.call (c_op_span_has y2.2 x0.B H q10) kr ?_)
  rintro _ w ⟨rfl, H⟩
  refine WL.sg 1 kr ?_
  obtain rfl := hy8
  exact WL.live [30] kr (hk_y8 () _ H)
  }
  {
  refine WL.known 25 ty8 kr kr ?_
  refine WL.sg 5 kr ?_
  obtain rfl := hy8
  exact WL.live [30] kr (hk_y8 () _ H)
  }
  }
  rcases ite_cases hy6 with ⟨ty6, hy6⟩ | ⟨ty6, hy6⟩
  {
  refine WL.known 19 ty6 kr kr ?_
  refine WL.does kr kr (Does.loadV H 1 rfl 0 kr kr ?_)
  refine WL.sg 1 kr ?_
  refine WL.does kr kr (Does.loadV H 2 rfl 1 kr kr ?_)
  obtain ⟨y11, q11, hy6⟩ := bnd_cases hy6
  refine WL.does kr kr (Does.call (c_op_span_has y2.1 x0.A H q11) kr ?_)
  rintro _ w ⟨rfl, H⟩
  refine WL.sg 1 kr ?_
  obtain rfl := hy6
  exact WL.live [1, 4, 24] kr (hk_y6 () _ H)
  }
  {
  refine WL.known 19 ty6 kr kr ?_
  refine WL.sg 5 kr ?_
  obtain rfl := hy6
  exact WL.live [1, 4, 24] kr (hk_y6 () _ H)
  }
  }
  rcases ite_cases hy5 with ⟨ty5, hy5⟩ | ⟨ty5, hy5⟩
  {
  refine WL.known 14 ty5 kr kr ?_
  refine WL.sg 1 kr ?_
  refine WL.does kr kr (Does.loadV H 2 rfl 0 kr kr ?_)
  refine WL.sg 2 kr ?_
  obtain rfl := hy5
  exact WL.live [1, 3, 4, 18] kr (hk_y5 () _ H)
  }
  {
  refine WL.known 14 ty5 kr kr ?_
  refine WL.sg 4 kr ?_
  obtain rfl := hy5
  exact WL.live [1, 3, 4, 18] kr (hk_y5 () _ H)
  }
def code_May_1 (x0 : GInstr) : Bool :=
  bnd (op_May x0) fun y2 =>
  !y2
set_option maxRecDepth 100000 in
set_option maxHeartbeats 4000000 in
theorem c_code_May_1 {w0 w : World} {h : Gh} {L : List Ent} (x0 : GInstr) (H : St w0 h w L) {r : Bool} (hr : code_May_1 x0 = r) : Calls Try.prog 47 #[.agg #[.int .i64 x0.Op, .int .i64 x0.A, .int .i64 x0.B]] w (fun e w' => ∃ v, e = .returned v ∧ v = .bool r ∧ St w0 h w' (L)) := by
  refine calls_of (args := [.agg #[.int .i64 x0.Op, .int .i64 x0.A, .int .i64 x0.B]]) (n := 6) (rs := [.tmp 2]) Try.func47 rfl rfl rfl rfl rfl ?_
  unfold code_May_1 at hr
  refine WE.seq ?_
  refine WE.region ?_
  refine WL.does kr kr (Does.box H [.int .i64 x0.Op, .int .i64 x0.A, .int .i64 x0.B] kr fun b1 w H => ?_)
  refine WL.fin 1 kr kr ?_
  refine WE.seq ?_
  refine WE.region ?_
  refine WL.does kr kr (Does.loadV H 0 rfl 0 kr kr ?_)
  obtain ⟨y2, q2, hr⟩ := bnd_cases hr
  refine WL.does kr kr (Does.call (c_op_May x0 H q2) kr ?_)
  rintro _ w ⟨rfl, H⟩
  refine WL.fin 2 kr kr ?_
  obtain rfl := hr
  exact WE.ret ⟨[.bool (!y2)], ⟨⟨kr, kr⟩, trivial⟩, ⟨rfl, (H.keep 1)⟩⟩
def slices_IndexFunc_Instr_at47_l1 (K : Nat) (x0 : List GInstr) : Nat → Int → Option Int
  | 0, _ => none
  | k1 + 1, y11 =>
    if decide (y11 < (x0.length : Int)) then
      if 0 ≤ y11 ∧ y11 < x0.length then
        bnd (code_May_1 (⟨(gd x0 y11).Op, (gd x0 y11).A, (gd x0 y11).B⟩ : GInstr)) fun y14 =>
        if y14 then
          some y11
        else
          slices_IndexFunc_Instr_at47_l1 K x0 k1 (w64 (y11 + 1))
      else none
    else
      some (-1)
def slices_IndexFunc_Instr_at47 (K : Nat) (x0 : List GInstr) : Option Int :=
  slices_IndexFunc_Instr_at47_l1 K x0 K 0
set_option maxRecDepth 100000 in
set_option maxHeartbeats 4000000 in
theorem c_slices_IndexFunc_Instr_at47 {w0 w : World} {h : Gh} {L : List Ent} (K : Nat) (x0 : List GInstr) {a1 : Option Addr} {c1 : Nat} (f1 : Sl rGInstr 24 h a1 c1 x0) (H : St w0 h w L) {r : Int} (hr : slices_IndexFunc_Instr_at47 K x0 = some r) : Calls Try.prog 73 #[.slice a1 x0.length c1, .func (.func 47) #[] #[]] w (fun e w' => ∃ v, e = .returned v ∧ v = .int .i64 r ∧ St w0 h w' (L)) := by
  refine calls_of (args := [.slice a1 x0.length c1, .func (.func 47) #[] #[]]) (n := 19) (rs := [.tmp 4]) Try.func73 rfl rfl rfl rfl rfl ?_
  unfold slices_IndexFunc_Instr_at47 at hr
  refine WE.seq ?_
  refine WE.region ?_
  refine WL.fin 1 kr kr ?_
  refine WE.seq ?_
  refine WE.seq ?_
  refine WE.region ?_
  refine WL.fin 3 kr kr ?_
  refine WE.block ?_
  refine WE.loop (LP.live [0, 1, 7, 8] kr (LP.rec (slices_IndexFunc_Instr_at47_l1 K x0) (fun (y11 : Int) (_ : Unit) => [(0, .slice a1 x0.length c1), (1, .func (.func 47) #[] #[]), (7, .int .i64 (x0.length : Int)), (8, .int .i64 y11)]) (fun (y11 : Int) (_ : Unit) => fun w => St w0 h w (L)) r (fun _ => rfl) ?_ K 0 () _ H hr))
  rintro k1 ih1 y11 _ w H hr
  simp only [slices_IndexFunc_Instr_at47_l1] at hr
  refine WE.seq ?_
  refine WE.region ?_
  refine WL.fin 1 kr kr ?_
  refine WE.seq ?_
  rcases ite_cases hr with ⟨t12, hr⟩ | ⟨t12, hr⟩
  {
  refine WE.yes kr (b := decide (y11 < (x0.length : Int))) kr t12 ?_
  refine WE.skip ?_
  refine WE.seq ?_
  refine WE.block ?_
  refine WE.seq ?_
  refine WE.region ?_
  refine WL.fin 2 kr kr ?_
  refine WE.seq ?_
  refine WE.region ?_
  obtain ⟨⟨g0_13, g1_13⟩, hr⟩ := grd_cases hr
  obtain ⟨b13, p13, C13, e13, fr13, cs13, rfl, hb13, hc13, rfl⟩ := f1.at g0_13 g1_13
  refine WL.sg 3 kr ?_
  refine WL.does kr kr (Does.tells (.idx b13 (p13) x0.length c1 y11 3 kr kr g0_13 g1_13 kr) ?_)
  refine WL.does kr kr (Does.loadR H hb13 hc13 0 kr kr ?_)
  obtain ⟨y14, q14, hr⟩ := bnd_cases hr
  refine WL.does kr kr (Does.call (c_code_May_1 (⟨(gd x0 y11).Op, (gd x0 y11).A, (gd x0 y11).B⟩ : GInstr) H q14) kr ?_)
  rintro _ w ⟨rfl, H⟩
  refine WL.fin 0 kr kr ?_
  rcases ite_cases hr with ⟨t15, hr⟩ | ⟨t15, hr⟩
  {
  refine WE.yes kr (b := y14) kr t15 ?_
  refine WE.seq ?_
  refine WE.region ?_
  refine WL.fin 2 kr kr ?_
  obtain rfl := Option.some.inj hr
  exact WE.ret ⟨[.int .i64 y11], ⟨⟨kr, kr⟩, trivial⟩, ⟨rfl, H⟩⟩
  }
  {
  refine WE.no kr (b := y14) kr t15 ?_
  refine WE.skip ?_
  refine WE.region ?_
  refine WL.fin 2 kr kr ?_
  exact LP.live [0, 1, 7, 8] kr (ih1 (w64 (y11 + 1)) () _ H hr)
  }
  }
  {
  refine WE.no kr (b := decide (y11 < (x0.length : Int))) kr t12 ?_
  refine WE.exit ?_
  refine WE.seq ?_
  refine WE.region ?_
  refine WL.fin 1 kr kr ?_
  obtain rfl := Option.some.inj hr
  exact WE.ret ⟨[.int .i64 (-1)], ⟨⟨kr, kr⟩, trivial⟩, ⟨rfl, H⟩⟩
  }
def slices_ContainsFunc_Instr_at47 (K : Nat) (x0 : List GInstr) : Option Bool :=
  (slices_IndexFunc_Instr_at47 K x0).bind fun y2 =>
  some (decide (y2 ≥ 0))
set_option maxRecDepth 100000 in
set_option maxHeartbeats 4000000 in
theorem c_slices_ContainsFunc_Instr_at47 {w0 w : World} {h : Gh} {L : List Ent} (K : Nat) (x0 : List GInstr) {a1 : Option Addr} {c1 : Nat} (f1 : Sl rGInstr 24 h a1 c1 x0) (H : St w0 h w L) {r : Bool} (hr : slices_ContainsFunc_Instr_at47 K x0 = some r) : Calls Try.prog 46 #[.slice a1 x0.length c1, .func (.func 47) #[] #[]] w (fun e w' => ∃ v, e = .returned v ∧ v = .bool r ∧ St w0 h w' (L)) := by
  refine calls_of (args := [.slice a1 x0.length c1, .func (.func 47) #[] #[]]) (n := 9) (rs := [.tmp 4]) Try.func46 rfl rfl rfl rfl rfl ?_
  unfold slices_ContainsFunc_Instr_at47 at hr
  refine WE.seq ?_
  refine WE.region ?_
  refine WL.fin 1 kr kr ?_
  refine WE.seq ?_
  refine WE.region ?_
  obtain ⟨y2, q2, hr⟩ := bind_cases hr
  refine WL.sg 2 kr ?_
  refine WL.does kr kr (Does.call (c_slices_IndexFunc_Instr_at47 K x0 f1 H q2) kr ?_)
  rintro _ w ⟨rfl, H⟩
  refine WL.fin 2 kr kr ?_
  obtain rfl := Option.some.inj hr
  exact WE.ret ⟨[.bool (decide (y2 ≥ 0))], ⟨⟨kr, kr⟩, trivial⟩, ⟨rfl, H⟩⟩
def code_May_l1 (K : Nat) (x0 : List GFunc) : Nat → Int → Option Bool
  | 0, _ => none
  | k1 + 1, y27 =>
    if decide (y27 < (x0.length : Int)) then
      if 0 ≤ y27 ∧ y27 < x0.length then
        bnd (code_head (⟨(gd x0 y27).Arity, (gd x0 y27).Locals, (gd x0 y27).Slots, (gd x0 y27).Code⟩ : GFunc)) fun y32 =>
        bnd (
            if !y32 then
              true
            else
              bnd (code_in (((gd x0 y27).Code).length : Int) 1 200) fun y39 =>
              !y39) fun y33 =>
        (
            if y33 then
              some true
            else
              (slices_ContainsFunc_Instr_at47 K ((gd x0 y27).Code)).bind fun y38 =>
              some y38).bind fun y35 =>
        if y35 then
          some false
        else
          code_May_l1 K x0 k1 (w64 (y27 + 1))
      else none
    else
      bnd (code_in (x0.length : Int) 1 16) fun y40 =>
      some y40
def code_May (K : Nat) (x0 : List GFunc) : Option Bool :=
  code_May_l1 K x0 K 0
set_option maxRecDepth 100000 in
set_option maxHeartbeats 4000000 in
theorem c_code_May {w0 w : World} {h : Gh} {L : List Ent} (K : Nat) (x0 : List GFunc) {a1 : Option Addr} {c1 : Nat} (f1 : Sl rGFunc 48 h a1 c1 x0) (H : St w0 h w L) {r : Bool} (hr : code_May K x0 = some r) : Calls Try.prog 20 #[.slice a1 x0.length c1] w (fun e w' => ∃ v, e = .returned v ∧ v = .bool r ∧ St w0 h w' (L)) := by
  refine calls_of (args := [.slice a1 x0.length c1]) (n := 30) (rs := [.tmp 2]) Try.func20 rfl rfl rfl rfl rfl ?_
  unfold code_May at hr
  refine WE.seq ?_
  refine WE.region ?_
  refine WL.fin 1 kr kr ?_
  refine WE.seq ?_
  refine WE.seq ?_
  refine WE.region ?_
  refine WL.fin 3 kr kr ?_
  refine WE.block ?_
  refine WE.loop (LP.live [0, 5, 6, 7] kr (LP.rec (code_May_l1 K x0) (fun (y27 : Int) (_ : Unit) => [(0, .slice a1 x0.length c1), (5, .slice a1 x0.length c1), (6, .int .i64 (x0.length : Int)), (7, .int .i64 y27)]) (fun (y27 : Int) (_ : Unit) => fun w => St w0 h w (L)) r (fun _ => rfl) ?_ K 0 () _ H hr))
  rintro k1 ih1 y27 _ w H hr
  simp only [code_May_l1] at hr
  refine WE.seq ?_
  refine WE.region ?_
  refine WL.fin 1 kr kr ?_
  refine WE.seq ?_
  rcases ite_cases hr with ⟨t28, hr⟩ | ⟨t28, hr⟩
  {
  refine WE.yes kr (b := decide (y27 < (x0.length : Int))) kr t28 ?_
  refine WE.skip ?_
  refine WE.seq ?_
  refine WE.block ?_
  refine WE.seq ?_
  refine WE.region ?_
  obtain ⟨⟨g0_29, g1_29⟩, hr⟩ := grd_cases hr
  obtain ⟨b29, p29, C29, e29, fr29, cs29, rfl, hb29, hc29, ⟨a30, c30, rfl, f30⟩⟩ := f1.at g0_29 g1_29
  refine WL.does kr kr (Does.tells (.idx b29 (p29) x0.length c1 y27 4 kr kr g0_29 g1_29 kr) ?_)
  refine WL.does kr kr (Does.loadR H hb29 hc29 0 kr kr ?_)
  refine WL.does kr kr (Does.alloc H (cGFunc (⟨0, 0, 0, []⟩ : GFunc) none 0) kr fun b31 w H => ?_)
  refine WL.does kr kr (Does.storeE H 0 (cGFunc (⟨(gd x0 y27).Arity, (gd x0 y27).Locals, (gd x0 y27).Slots, (gd x0 y27).Code⟩ : GFunc) a30 c30) rfl (q := 0) kr kr kr fun w H => ?_)
  refine WL.fin 0 kr kr ?_
  refine WE.seq ?_
  refine WE.region ?_
  refine WL.does kr kr (Does.loadV H 0 rfl 0 kr kr ?_)
  obtain ⟨y32, q32, hr⟩ := bnd_cases hr
  refine WL.does kr kr (Does.call (c_code_head (⟨(gd x0 y27).Arity, (gd x0 y27).Locals, (gd x0 y27).Slots, (gd x0 y27).Code⟩ : GFunc) f30 H q32) kr ?_)
  rintro _ w ⟨rfl, H⟩
  refine WL.sg 2 kr ?_
  obtain ⟨y33, hy33, hr⟩ := bnd_cases hr
  refine WL.join 6 (fun (_ : Unit) => [(0, .slice (some ⟨b29, p29, none⟩) x0.length c1), (4, .pointer (some ⟨b31, 0, none⟩)), (5, .slice (some ⟨b29, p29, none⟩) x0.length c1), (6, .int .i64 (x0.length : Int)), (7, .int .i64 y27), (20, .bool y33)]) (fun (_ : Unit) w => St w0 h w (var b31 (cGFunc (⟨(gd x0 y27).Arity, (gd x0 y27).Locals, (gd x0 y27).Slots, (gd x0 y27).Code⟩ : GFunc) a30 c30) 31 :: L)) ?_ (fun hk_y33 => ?_)
  {
  rintro _ w H
  refine WL.sg 1 kr ?_
  obtain ⟨y35, hy35, hr⟩ := bind_cases hr
  refine WL.join 4 (fun (_ : Unit) => [(0, .slice (some ⟨b29, p29, none⟩) x0.length c1), (5, .slice (some ⟨b29, p29, none⟩) x0.length c1), (6, .int .i64 (x0.length : Int)), (7, .int .i64 y27), (25, .bool y35)]) (fun (_ : Unit) w => St w0 h w (var b31 (cGFunc (⟨(gd x0 y27).Arity, (gd x0 y27).Locals, (gd x0 y27).Slots, (gd x0 y27).Code⟩ : GFunc) a30 c30) 31 :: L)) ?_ (fun hk_y35 => ?_)
  {
  rintro _ w H
  refine WL.fin 0 kr kr ?_
  rcases ite_cases hr with ⟨t37, hr⟩ | ⟨t37, hr⟩
  {
  refine WE.yes kr (b := y35) kr t37 ?_
  refine WE.seq ?_
  refine WE.region ?_
  refine WL.fin 1 kr kr ?_
  obtain rfl := Option.some.inj hr
  exact WE.ret ⟨[.bool false], ⟨⟨kr, kr⟩, trivial⟩, ⟨rfl, (H.keep 1)⟩⟩
  }
  {
  refine WE.no kr (b := y35) kr t37 ?_
  refine WE.skip ?_
  refine WE.region ?_
  refine WL.fin 2 kr kr ?_
  exact LP.live [0, 5, 6, 7] kr (ih1 (w64 (y27 + 1)) () _ (H.keep 1) hr)
  }
  }
  rcases ite_cases hy35 with ⟨ty35, hy35⟩ | ⟨ty35, hy35⟩
  {
  refine WL.known 21 ty35 kr kr ?_
  refine WL.sg 4 kr ?_
  obtain rfl := Option.some.inj hy35
  exact WL.live [0, 5, 6, 7, 25] kr (hk_y35 () _ H)
  }
  {
  refine WL.known 21 ty35 kr kr ?_
  refine WL.sg 1 kr ?_
  refine WL.does kr kr (Does.loadV H 0 rfl 3 kr kr ?_)
  obtain ⟨y38, q38, hy35⟩ := bind_cases hy35
  refine WL.does kr kr (Does.call (c_slices_ContainsFunc_Instr_at47 K ((gd x0 y27).Code) f30 H q38) kr ?_)
  rintro _ w ⟨rfl, H⟩
  refine WL.sg 1 kr ?_
  obtain rfl := Option.some.inj hy35
  exact WL.live [0, 5, 6, 7, 25] kr (hk_y35 () _ H)
  }
  }
  rcases ite_cases hy33 with ⟨ty33, hy33⟩ | ⟨ty33, hy33⟩
  {
  refine WL.known 14 ty33 kr kr ?_
  refine WL.sg 6 kr ?_
  obtain rfl := hy33
  exact WL.live [0, 4, 5, 6, 7, 20] kr (hk_y33 () _ H)
  }
  {
  refine WL.known 14 ty33 kr kr ?_
  refine WL.sg 1 kr ?_
  refine WL.does kr kr (Does.loadV H 0 rfl 3 kr kr ?_)
  obtain ⟨y39, q39, hy33⟩ := bnd_cases hy33
  refine WL.sg 1 kr ?_
  refine WL.does kr kr (Does.call (c_code_in (((gd x0 y27).Code).length : Int) 1 200 H q39) kr ?_)
  rintro _ w ⟨rfl, H⟩
  refine WL.sg 2 kr ?_
  obtain rfl := hy33
  exact WL.live [0, 4, 5, 6, 7, 20] kr (hk_y33 () _ H)
  }
  }
  {
  refine WE.no kr (b := decide (y27 < (x0.length : Int))) kr t28 ?_
  refine WE.exit ?_
  refine WE.seq ?_
  refine WE.region ?_
  obtain ⟨y40, q40, hr⟩ := bnd_cases hr
  refine WL.sg 2 kr ?_
  refine WL.does kr kr (Does.call (c_code_in (x0.length : Int) 1 16 H q40) kr ?_)
  rintro _ w ⟨rfl, H⟩
  refine WL.fin 1 kr kr ?_
  obtain rfl := Option.some.inj hr
  exact WE.ret ⟨[.bool y40], ⟨⟨kr, kr⟩, trivial⟩, ⟨rfl, H⟩⟩
  }
def gauss_rest (x0 : Int) : Int :=
  Int.tmod (w64 ((Int.tmod x0 251) + 251)) 251
set_option maxRecDepth 100000 in
set_option maxHeartbeats 4000000 in
theorem c_gauss_rest {w0 w : World} {h : Gh} {L : List Ent} (x0 : Int) (H : St w0 h w L) {r : Int} (hr : gauss_rest x0 = r) : Calls Try.prog 50 #[.int .i64 x0] w (fun e w' => ∃ v, e = .returned v ∧ v = .int .i64 r ∧ St w0 h w' (L)) := by
  refine calls_of (args := [.int .i64 x0]) (n := 7) (rs := [.tmp 2]) Try.func50 rfl rfl rfl rfl rfl ?_
  unfold gauss_rest at hr
  refine WE.seq ?_
  refine WE.region ?_
  refine WL.fin 1 kr kr ?_
  refine WE.seq ?_
  refine WE.region ?_
  refine WL.fin 5 kr kr ?_
  obtain rfl := hr
  exact WE.ret ⟨[.int .i64 (Int.tmod (w64 ((Int.tmod x0 251) + 251)) 251)], ⟨⟨kr, kr⟩, trivial⟩, ⟨rfl, H⟩⟩
def gauss_May (x0 : GValue) : Bool :=
  bnd (gauss_rest x0.Re) fun y2 =>
  bnd (gauss_rest x0.Im) fun y3 =>
  (x0.Re == y2) && ((x0.Im == y3) && true)
set_option maxRecDepth 100000 in
set_option maxHeartbeats 4000000 in
theorem c_gauss_May {w0 w : World} {h : Gh} {L : List Ent} (x0 : GValue) (H : St w0 h w L) {r : Bool} (hr : gauss_May x0 = r) : Calls Try.prog 23 #[.agg #[.int .i64 x0.Re, .int .i64 x0.Im]] w (fun e w' => ∃ v, e = .returned v ∧ v = .bool r ∧ St w0 h w' (L)) := by
  refine calls_of (args := [.agg #[.int .i64 x0.Re, .int .i64 x0.Im]]) (n := 12) (rs := [.tmp 2]) Try.func23 rfl rfl rfl rfl rfl ?_
  unfold gauss_May at hr
  refine WE.seq ?_
  refine WE.region ?_
  refine WL.does kr kr (Does.box H [.int .i64 x0.Re, .int .i64 x0.Im] kr fun b1 w H => ?_)
  refine WL.fin 1 kr kr ?_
  refine WE.seq ?_
  refine WE.draws mo [1] (ρ' := [(1, .pointer (some ⟨b1, 0, none⟩))]) kr fun w e1 e2 e3 e4 => ?_
  have H := H.same e1 e2 e3 e4
  clear e1 e2 e3 e4
  refine WD.told 0 3 (.agg #[.int .i64 x0.Re, .int .i64 x0.Im]) kr kr ?_
  refine WD.know [1] kr ?_
  refine WD.told 2 5 (.int .i64 x0.Re) kr kr ?_
  refine WD.know [4] kr ?_
  refine WD.told 5 8 (.int .i64 x0.Im) kr kr ?_
  obtain ⟨y2, q2, hr⟩ := bnd_cases hr
  refine WD.does 3 kr rfl (Floats.of [4, 1] [5, 2, 0] kr (Floats.pure _ kr kr) (.cons (.tells rfl kr rfl (.loadV H 0 rfl 1 kr kr)) (.cons (.tells rfl kr rfl (.loadV H 0 rfl 0 kr kr)) (.cons (.tells rfl kr rfl (.loadV H 0 rfl 0 kr kr)) .nil)))) kr kr (Does.call (c_gauss_rest x0.Re H q2) kr ?_)
  rintro _ w ⟨rfl, H⟩
  obtain ⟨y3, q3, hr⟩ := bnd_cases hr
  refine WD.does 6 kr rfl (Floats.of [4, 1] [5, 0] kr (Floats.pure _ kr kr) (.cons (.tells rfl kr rfl (.loadV H 0 rfl 1 kr kr)) (.cons (.tells rfl kr rfl (.loadV H 0 rfl 0 kr kr)) .nil))) kr kr (Does.call (c_gauss_rest x0.Im H q3) kr ?_)
  rintro _ w ⟨rfl, H⟩
  refine WD.know [7] kr ?_
  refine WD.told 8 11 (.bool ((x0.Re == y2) && ((x0.Im == y3) && true))) kr kr ?_
  refine WD.does 9 kr rfl (Floats.of [7, 4, 1] [8, 0] kr (Floats.pure _ kr kr) (.cons (.tells rfl kr kr (.eql ((x0.Re == y2) && ((x0.Im == y3) && true)) kr kr kr)) (.cons (.tells rfl kr rfl (.loadV H 0 rfl 0 kr kr)) .nil))) kr kr (Does.reck kr ?_)
  refine WD.fin kr (Floats.of [] [] kr .nil .nil) kr kr ?_
  obtain rfl := hr
  exact WE.ret ⟨[.bool ((x0.Re == y2) && ((x0.Im == y3) && true))], ⟨⟨kr, kr⟩, trivial⟩, ⟨rfl, (H.keep 1)⟩⟩
def frame_New_1 (x0 : GValue) : Bool :=
  bnd (gauss_May x0) fun y2 =>
  !y2
set_option maxRecDepth 100000 in
set_option maxHeartbeats 4000000 in
theorem c_frame_New_1 {w0 w : World} {h : Gh} {L : List Ent} (x0 : GValue) (H : St w0 h w L) {r : Bool} (hr : frame_New_1 x0 = r) : Calls Try.prog 22 #[.agg #[.int .i64 x0.Re, .int .i64 x0.Im]] w (fun e w' => ∃ v, e = .returned v ∧ v = .bool r ∧ St w0 h w' (L)) := by
  refine calls_of (args := [.agg #[.int .i64 x0.Re, .int .i64 x0.Im]]) (n := 6) (rs := [.tmp 2]) Try.func22 rfl rfl rfl rfl rfl ?_
  unfold frame_New_1 at hr
  refine WE.seq ?_
  refine WE.region ?_
  refine WL.does kr kr (Does.box H [.int .i64 x0.Re, .int .i64 x0.Im] kr fun b1 w H => ?_)
  refine WL.fin 1 kr kr ?_
  refine WE.seq ?_
  refine WE.region ?_
  refine WL.does kr kr (Does.loadV H 0 rfl 0 kr kr ?_)
  obtain ⟨y2, q2, hr⟩ := bnd_cases hr
  refine WL.does kr kr (Does.call (c_gauss_May x0 H q2) kr ?_)
  rintro _ w ⟨rfl, H⟩
  refine WL.fin 2 kr kr ?_
  obtain rfl := hr
  exact WE.ret ⟨[.bool (!y2)], ⟨⟨kr, kr⟩, trivial⟩, ⟨rfl, (H.keep 1)⟩⟩
def slices_IndexFunc_Value_at22_l1 (K : Nat) (x0 : List GValue) : Nat → Int → Option Int
  | 0, _ => none
  | k1 + 1, y11 =>
    if decide (y11 < (x0.length : Int)) then
      if 0 ≤ y11 ∧ y11 < x0.length then
        bnd (frame_New_1 (⟨(gd x0 y11).Re, (gd x0 y11).Im⟩ : GValue)) fun y14 =>
        if y14 then
          some y11
        else
          slices_IndexFunc_Value_at22_l1 K x0 k1 (w64 (y11 + 1))
      else none
    else
      some (-1)
def slices_IndexFunc_Value_at22 (K : Nat) (x0 : List GValue) : Option Int :=
  slices_IndexFunc_Value_at22_l1 K x0 K 0
set_option maxRecDepth 100000 in
set_option maxHeartbeats 4000000 in
theorem c_slices_IndexFunc_Value_at22 {w0 w : World} {h : Gh} {L : List Ent} (K : Nat) (x0 : List GValue) {a1 : Option Addr} {c1 : Nat} (f1 : Sl rGValue 16 h a1 c1 x0) (H : St w0 h w L) {r : Int} (hr : slices_IndexFunc_Value_at22 K x0 = some r) : Calls Try.prog 49 #[.slice a1 x0.length c1, .func (.func 22) #[] #[]] w (fun e w' => ∃ v, e = .returned v ∧ v = .int .i64 r ∧ St w0 h w' (L)) := by
  refine calls_of (args := [.slice a1 x0.length c1, .func (.func 22) #[] #[]]) (n := 19) (rs := [.tmp 4]) Try.func49 rfl rfl rfl rfl rfl ?_
  unfold slices_IndexFunc_Value_at22 at hr
  refine WE.seq ?_
  refine WE.region ?_
  refine WL.fin 1 kr kr ?_
  refine WE.seq ?_
  refine WE.seq ?_
  refine WE.region ?_
  refine WL.fin 3 kr kr ?_
  refine WE.block ?_
  refine WE.loop (LP.live [0, 1, 7, 8] kr (LP.rec (slices_IndexFunc_Value_at22_l1 K x0) (fun (y11 : Int) (_ : Unit) => [(0, .slice a1 x0.length c1), (1, .func (.func 22) #[] #[]), (7, .int .i64 (x0.length : Int)), (8, .int .i64 y11)]) (fun (y11 : Int) (_ : Unit) => fun w => St w0 h w (L)) r (fun _ => rfl) ?_ K 0 () _ H hr))
  rintro k1 ih1 y11 _ w H hr
  simp only [slices_IndexFunc_Value_at22_l1] at hr
  refine WE.seq ?_
  refine WE.region ?_
  refine WL.fin 1 kr kr ?_
  refine WE.seq ?_
  rcases ite_cases hr with ⟨t12, hr⟩ | ⟨t12, hr⟩
  {
  refine WE.yes kr (b := decide (y11 < (x0.length : Int))) kr t12 ?_
  refine WE.skip ?_
  refine WE.seq ?_
  refine WE.block ?_
  refine WE.seq ?_
  refine WE.region ?_
  refine WL.fin 2 kr kr ?_
  refine WE.seq ?_
  refine WE.region ?_
  obtain ⟨⟨g0_13, g1_13⟩, hr⟩ := grd_cases hr
  obtain ⟨b13, p13, C13, e13, fr13, cs13, rfl, hb13, hc13, rfl⟩ := f1.at g0_13 g1_13
  refine WL.sg 3 kr ?_
  refine WL.does kr kr (Does.tells (.idx b13 (p13) x0.length c1 y11 2 kr kr g0_13 g1_13 kr) ?_)
  refine WL.does kr kr (Does.loadR H hb13 hc13 0 kr kr ?_)
  obtain ⟨y14, q14, hr⟩ := bnd_cases hr
  refine WL.does kr kr (Does.call (c_frame_New_1 (⟨(gd x0 y11).Re, (gd x0 y11).Im⟩ : GValue) H q14) kr ?_)
  rintro _ w ⟨rfl, H⟩
  refine WL.fin 0 kr kr ?_
  rcases ite_cases hr with ⟨t15, hr⟩ | ⟨t15, hr⟩
  {
  refine WE.yes kr (b := y14) kr t15 ?_
  refine WE.seq ?_
  refine WE.region ?_
  refine WL.fin 2 kr kr ?_
  obtain rfl := Option.some.inj hr
  exact WE.ret ⟨[.int .i64 y11], ⟨⟨kr, kr⟩, trivial⟩, ⟨rfl, H⟩⟩
  }
  {
  refine WE.no kr (b := y14) kr t15 ?_
  refine WE.skip ?_
  refine WE.region ?_
  refine WL.fin 2 kr kr ?_
  exact LP.live [0, 1, 7, 8] kr (ih1 (w64 (y11 + 1)) () _ H hr)
  }
  }
  {
  refine WE.no kr (b := decide (y11 < (x0.length : Int))) kr t12 ?_
  refine WE.exit ?_
  refine WE.seq ?_
  refine WE.region ?_
  refine WL.fin 1 kr kr ?_
  obtain rfl := Option.some.inj hr
  exact WE.ret ⟨[.int .i64 (-1)], ⟨⟨kr, kr⟩, trivial⟩, ⟨rfl, H⟩⟩
  }
def slices_ContainsFunc_Value_at22 (K : Nat) (x0 : List GValue) : Option Bool :=
  (slices_IndexFunc_Value_at22 K x0).bind fun y2 =>
  some (decide (y2 ≥ 0))
set_option maxRecDepth 100000 in
set_option maxHeartbeats 4000000 in
theorem c_slices_ContainsFunc_Value_at22 {w0 w : World} {h : Gh} {L : List Ent} (K : Nat) (x0 : List GValue) {a1 : Option Addr} {c1 : Nat} (f1 : Sl rGValue 16 h a1 c1 x0) (H : St w0 h w L) {r : Bool} (hr : slices_ContainsFunc_Value_at22 K x0 = some r) : Calls Try.prog 21 #[.slice a1 x0.length c1, .func (.func 22) #[] #[]] w (fun e w' => ∃ v, e = .returned v ∧ v = .bool r ∧ St w0 h w' (L)) := by
  refine calls_of (args := [.slice a1 x0.length c1, .func (.func 22) #[] #[]]) (n := 9) (rs := [.tmp 4]) Try.func21 rfl rfl rfl rfl rfl ?_
  unfold slices_ContainsFunc_Value_at22 at hr
  refine WE.seq ?_
  refine WE.region ?_
  refine WL.fin 1 kr kr ?_
  refine WE.seq ?_
  refine WE.region ?_
  obtain ⟨y2, q2, hr⟩ := bind_cases hr
  refine WL.sg 2 kr ?_
  refine WL.does kr kr (Does.call (c_slices_IndexFunc_Value_at22 K x0 f1 H q2) kr ?_)
  rintro _ w ⟨rfl, H⟩
  refine WL.fin 2 kr kr ?_
  obtain rfl := Option.some.inj hr
  exact WE.ret ⟨[.bool (decide (y2 ≥ 0))], ⟨⟨kr, kr⟩, trivial⟩, ⟨rfl, H⟩⟩
def frame_noRef : GRef :=
  (⟨(-1), 0⟩ : GRef)
set_option maxRecDepth 100000 in
set_option maxHeartbeats 4000000 in
theorem c_frame_noRef {w0 w : World} {h : Gh} {L : List Ent} (H : St w0 h w L) {r : GRef} (hr : frame_noRef = r) : Calls Try.prog 24 #[] w (fun e w' => ∃ v, e = .returned v ∧ v = .agg #[.int .i64 r.At, .int .i64 r.Gen] ∧ St w0 h w' (L)) := by
  refine calls_of (args := []) (n := 2) (rs := [.cell 0 38]) Try.func24 rfl rfl rfl rfl rfl ?_
  unfold frame_noRef at hr
  refine WE.seq ?_
  refine WE.region ?_
  refine WL.does kr kr (Does.alloc H [.int .i64 0, .int .i64 0] kr fun b1 w H => ?_)
  refine WL.fin 0 kr kr ?_
  refine WE.seq ?_
  refine WE.region ?_
  refine WL.sg 1 kr ?_
  refine WL.does kr kr (Does.storeE H 0 [.int .i64 (-1), .int .i64 0] rfl (q := 0) kr kr kr fun w H => ?_)
  refine WL.fin 0 kr kr ?_
  obtain rfl := hr
  exact WE.ret ⟨[.agg #[.int .i64 (-1), .int .i64 0]], ⟨⟨kr, ⟨b1, 0, none⟩, kr, H.loadVar 0 rfl 0 kr⟩, trivial⟩, ⟨rfl, (H.keep 1)⟩⟩
def frame_New (K : Nat) (x0 : List GFunc) (x1 : Int) (x2 : List GValue) (x3 : Int) : Option (GFrame × Bool) :=
  (code_May K x0).bind fun y22 =>
  bnd (
      if !y22 then
        true
      else
        decide (x1 < 0)) fun y23 =>
  bnd (
      if y23 then
        true
      else
        decide (x1 ≥ (x0.length : Int))) fun y24 =>
  bnd (
      if y24 then
        true
      else
        decide (x3 < 0)) fun y25 =>
  bnd (
      if y25 then
        true
      else
        decide (x3 > 4294967295)) fun y26 =>
  if y26 then
    some ((⟨0, 0, [], [], [], 0, 0, 0, 0, 0, (⟨0, (⟨0, 0⟩ : GValue)⟩ : GOut), (⟨0, 0⟩ : GRef), 0⟩ : GFrame), false)
  else
    if 0 ≤ x1 ∧ x1 < x0.length then
      bnd (
          if decide (((gd x0 x1).Arity) > ((gd x0 x1).Locals)) then
            true
          else
            (x2.length : Int) != ((gd x0 x1).Arity)) fun y33 =>
      (
          if y33 then
            some true
          else
            (slices_ContainsFunc_Value_at22 K x2).bind fun y42 =>
            some y42).bind fun y34 =>
      if y34 then
        some ((⟨0, 0, [], [], [], 0, 0, 0, 0, 0, (⟨0, (⟨0, 0⟩ : GValue)⟩ : GOut), (⟨0, 0⟩ : GRef), 0⟩ : GFrame), false)
      else
        if 0 ≤ ((gd x0 x1).Locals) ∧ ((gd x0 x1).Locals) ≤ ((gd x0 x1).Locals) ∧ ((gd x0 x1).Locals).toNat * 16 ≤ LIM ∧ ((gd x0 x1).Locals) ≤ 9223372036854775807 then
          if 0 ≤ ((gd x0 x1).Slots) ∧ ((gd x0 x1).Slots) ≤ ((gd x0 x1).Slots) ∧ ((gd x0 x1).Slots).toNat * 48 ≤ LIM ∧ ((gd x0 x1).Slots) ≤ 9223372036854775807 then
            bnd frame_noRef fun y41 =>
            some ((⟨x1, 0, [], (copied (List.replicate ((gd x0 x1).Locals).toNat (⟨0, 0⟩ : GValue)) x2), (List.replicate ((gd x0 x1).Slots).toNat (⟨0, (⟨0, 0⟩ : GRef), (⟨0, (⟨0, 0⟩ : GValue)⟩ : GOut)⟩ : GSlot)), x3, 0, 0, 0, 0, (⟨0, (⟨0, 0⟩ : GValue)⟩ : GOut), y41, 0⟩ : GFrame), true)
          else none
        else none
    else none
set_option maxRecDepth 100000 in
set_option maxHeartbeats 4000000 in
theorem c_frame_New {w0 w : World} {h : Gh} {L : List Ent} (K : Nat) (x0 : List GFunc) {a1 : Option Addr} {c1 : Nat} (f1 : Sl rGFunc 48 h a1 c1 x0) (x1 : Int) (x2 : List GValue) {a2 : Option Addr} {c2 : Nat} (f2 : Sl rGValue 16 h a2 c2 x2) (x3 : Int) (H : St w0 h w L) {r : GFrame × Bool} (hr : frame_New K x0 x1 x2 x3 = some r) : Calls Try.prog 8 #[.slice a1 x0.length c1, .int .i64 x1, .slice a2 x2.length c2, .int .i64 x3] w (fun e w' => ∃ v, e = .returned v ∧ ∃ (h' : Gh) (a901 : Option Addr) (c901 : Nat) (a902 : Option Addr) (c902 : Nat) (a903 : Option Addr) (c903 : Nat), v = .tuple #[.agg (cGFrame r.1 a901 c901 a902 c902 a903 c903).toArray, .bool r.2] ∧ h.le h' ∧ Sl rGValue 16 h' a901 c901 r.1.Stack ∧ St w0 h' w' (row rGValue 16 h' a902 c902 r.1.Locals :: row rGSlot 48 h' a903 c903 r.1.Slots :: L)) := by
  refine calls_of (args := [.slice a1 x0.length c1, .int .i64 x1, .slice a2 x2.length c2, .int .i64 x3]) (n := 69) (rs := [.cell 8 40, .tmp 9]) Try.func8 rfl rfl rfl rfl rfl ?_
  unfold frame_New at hr
  refine WE.seq ?_
  refine WE.region ?_
  refine WL.does kr kr (Does.alloc H (cGFrame (⟨0, 0, [], [], [], 0, 0, 0, 0, 0, (⟨0, (⟨0, 0⟩ : GValue)⟩ : GOut), (⟨0, 0⟩ : GRef), 0⟩ : GFrame) none 0 none 0 none 0) kr fun b21 w H => ?_)
  refine WL.fin 1 kr kr ?_
  refine WE.seq ?_
  refine WE.seq ?_
  refine WE.region ?_
  obtain ⟨y22, q22, hr⟩ := bind_cases hr
  refine WL.sg 1 kr ?_
  refine WL.does kr kr (Does.call (c_code_May K x0 f1 H q22) kr ?_)
  rintro _ w ⟨rfl, H⟩
  refine WL.sg 2 kr ?_
  obtain ⟨y23, hy23, hr⟩ := bnd_cases hr
  refine WL.join 3 (fun (_ : Unit) => [(0, .slice a1 x0.length c1), (1, .int .i64 x1), (2, .slice a2 x2.length c2), (3, .int .i64 x3), (8, .pointer (some ⟨b21, 0, none⟩)), (18, .bool y23)]) (fun (_ : Unit) w => St w0 h w (var b21 (cGFrame (⟨0, 0, [], [], [], 0, 0, 0, 0, 0, (⟨0, (⟨0, 0⟩ : GValue)⟩ : GOut), (⟨0, 0⟩ : GRef), 0⟩ : GFrame) none 0 none 0 none 0) 40 :: L)) ?_ (fun hk_y23 => ?_)
  {
  rintro _ w H
  refine WL.sg 1 kr ?_
  obtain ⟨y24, hy24, hr⟩ := bnd_cases hr
  refine WL.join 5 (fun (_ : Unit) => [(0, .slice a1 x0.length c1), (1, .int .i64 x1), (2, .slice a2 x2.length c2), (3, .int .i64 x3), (8, .pointer (some ⟨b21, 0, none⟩)), (24, .bool y24)]) (fun (_ : Unit) w => St w0 h w (var b21 (cGFrame (⟨0, 0, [], [], [], 0, 0, 0, 0, 0, (⟨0, (⟨0, 0⟩ : GValue)⟩ : GOut), (⟨0, 0⟩ : GRef), 0⟩ : GFrame) none 0 none 0 none 0) 40 :: L)) ?_ (fun hk_y24 => ?_)
  {
  rintro _ w H
  refine WL.sg 1 kr ?_
  obtain ⟨y25, hy25, hr⟩ := bnd_cases hr
  refine WL.join 3 (fun (_ : Unit) => [(0, .slice a1 x0.length c1), (1, .int .i64 x1), (2, .slice a2 x2.length c2), (3, .int .i64 x3), (8, .pointer (some ⟨b21, 0, none⟩)), (28, .bool y25)]) (fun (_ : Unit) w => St w0 h w (var b21 (cGFrame (⟨0, 0, [], [], [], 0, 0, 0, 0, 0, (⟨0, (⟨0, 0⟩ : GValue)⟩ : GOut), (⟨0, 0⟩ : GRef), 0⟩ : GFrame) none 0 none 0 none 0) 40 :: L)) ?_ (fun hk_y25 => ?_)
  {
  rintro _ w H
  refine WL.sg 1 kr ?_
  obtain ⟨y26, hy26, hr⟩ := bnd_cases hr
  refine WL.join 3 (fun (_ : Unit) => [(0, .slice a1 x0.length c1), (1, .int .i64 x1), (2, .slice a2 x2.length c2), (3, .int .i64 x3), (8, .pointer (some ⟨b21, 0, none⟩)), (32, .bool y26)]) (fun (_ : Unit) w => St w0 h w (var b21 (cGFrame (⟨0, 0, [], [], [], 0, 0, 0, 0, 0, (⟨0, (⟨0, 0⟩ : GValue)⟩ : GOut), (⟨0, 0⟩ : GRef), 0⟩ : GFrame) none 0 none 0 none 0) 40 :: L)) ?_ (fun hk_y26 => ?_)
  {
  rintro _ w H
  refine WL.fin 0 kr kr ?_
  rcases ite_cases hr with ⟨t27, hr⟩ | ⟨t27, hr⟩
  {
  refine WE.yes kr (b := y26) kr t27 ?_
  refine WE.seq ?_
  refine WE.region ?_
  refine WL.sg 1 kr ?_
  refine WL.does kr kr (Does.storeE H 0 (cGFrame (⟨0, 0, [], [], [], 0, 0, 0, 0, 0, (⟨0, (⟨0, 0⟩ : GValue)⟩ : GOut), (⟨0, 0⟩ : GRef), 0⟩ : GFrame) none 0 none 0 none 0) rfl (q := 0) kr kr kr fun w H => ?_)
  refine WL.fin 1 kr kr ?_
  have H := H.rowNil rGValue 16
  have H := H.rowNil rGSlot 48
  obtain rfl := Option.some.inj hr
  exact WE.ret ⟨[.agg (cGFrame (⟨0, 0, [], [], [], 0, 0, 0, 0, 0, (⟨0, (⟨0, 0⟩ : GValue)⟩ : GOut), (⟨0, 0⟩ : GRef), 0⟩ : GFrame) none 0 none 0 none 0).toArray, .bool false], ⟨⟨kr, ⟨b21, 0, none⟩, kr, H.loadVar 2 rfl 0 kr⟩, ⟨kr, kr⟩, trivial⟩, ⟨h, none, 0, none, 0, none, 0, rfl, (Gh.refl _), (Sl.nil _ _ (Nat.zero_le _)), ((H.front 1 rfl).mid 2 1)⟩⟩
  }
  {
  refine WE.no kr (b := y26) kr t27 ?_
  refine WE.skip ?_
  refine WE.seq ?_
  refine WE.region ?_
  obtain ⟨⟨g0_30, g1_30⟩, hr⟩ := grd_cases hr
  obtain ⟨b30, p30, C30, e30, fr30, cs30, rfl, hb30, hc30, ⟨a31, c31, rfl, f31⟩⟩ := f1.at g0_30 g1_30
  refine WL.sg 2 kr ?_
  refine WL.does kr kr (Does.tells (.idx b30 (p30) x0.length c1 x1 4 kr kr g0_30 g1_30 kr) ?_)
  refine WL.does kr kr (Does.loadR H hb30 hc30 0 kr kr ?_)
  refine WL.does kr kr (Does.alloc H (cGFunc (⟨0, 0, 0, []⟩ : GFunc) none 0) kr fun b32 w H => ?_)
  refine WL.does kr kr (Does.storeE H 0 (cGFunc (⟨(gd x0 x1).Arity, (gd x0 x1).Locals, (gd x0 x1).Slots, (gd x0 x1).Code⟩ : GFunc) a31 c31) rfl (q := 0) kr kr kr fun w H => ?_)
  refine WL.fin 0 kr kr ?_
  refine WE.seq ?_
  refine WE.seq ?_
  refine WE.region ?_
  refine WL.sg 1 kr ?_
  refine WL.does kr kr (Does.loadV H 0 rfl 0 kr kr ?_)
  refine WL.sg 1 kr ?_
  refine WL.does kr kr (Does.loadV H 0 rfl 1 kr kr ?_)
  refine WL.sg 2 kr ?_
  obtain ⟨y33, hy33, hr⟩ := bnd_cases hr
  refine WL.join 6 (fun (_ : Unit) => [(1, .int .i64 x1), (2, .slice a2 x2.length c2), (3, .int .i64 x3), (8, .pointer (some ⟨b21, 0, none⟩)), (10, .pointer (some ⟨b32, 0, none⟩)), (49, .bool y33)]) (fun (_ : Unit) w => St w0 h w (var b32 (cGFunc (⟨(gd x0 x1).Arity, (gd x0 x1).Locals, (gd x0 x1).Slots, (gd x0 x1).Code⟩ : GFunc) a31 c31) 31 :: var b21 (cGFrame (⟨0, 0, [], [], [], 0, 0, 0, 0, 0, (⟨0, (⟨0, 0⟩ : GValue)⟩ : GOut), (⟨0, 0⟩ : GRef), 0⟩ : GFrame) none 0 none 0 none 0) 40 :: L)) ?_ (fun hk_y33 => ?_)
  {
  rintro _ w H
  refine WL.sg 1 kr ?_
  obtain ⟨y34, hy34, hr⟩ := bind_cases hr
  refine WL.join 3 (fun (_ : Unit) => [(1, .int .i64 x1), (2, .slice a2 x2.length c2), (3, .int .i64 x3), (8, .pointer (some ⟨b21, 0, none⟩)), (10, .pointer (some ⟨b32, 0, none⟩)), (53, .bool y34)]) (fun (_ : Unit) w => St w0 h w (var b32 (cGFunc (⟨(gd x0 x1).Arity, (gd x0 x1).Locals, (gd x0 x1).Slots, (gd x0 x1).Code⟩ : GFunc) a31 c31) 31 :: var b21 (cGFrame (⟨0, 0, [], [], [], 0, 0, 0, 0, 0, (⟨0, (⟨0, 0⟩ : GValue)⟩ : GOut), (⟨0, 0⟩ : GRef), 0⟩ : GFrame) none 0 none 0 none 0) 40 :: L)) ?_ (fun hk_y34 => ?_)
  {
  rintro _ w H
  refine WL.fin 0 kr kr ?_
  rcases ite_cases hr with ⟨t36, hr⟩ | ⟨t36, hr⟩
  {
  refine WE.yes kr (b := y34) kr t36 ?_
  refine WE.seq ?_
  refine WE.region ?_
  refine WL.sg 1 kr ?_
  refine WL.does kr kr (Does.storeE H 1 (cGFrame (⟨0, 0, [], [], [], 0, 0, 0, 0, 0, (⟨0, (⟨0, 0⟩ : GValue)⟩ : GOut), (⟨0, 0⟩ : GRef), 0⟩ : GFrame) none 0 none 0 none 0) rfl (q := 0) kr kr kr fun w H => ?_)
  refine WL.fin 1 kr kr ?_
  have H := H.rowNil rGValue 16
  have H := H.rowNil rGSlot 48
  obtain rfl := Option.some.inj hr
  exact WE.ret ⟨[.agg (cGFrame (⟨0, 0, [], [], [], 0, 0, 0, 0, 0, (⟨0, (⟨0, 0⟩ : GValue)⟩ : GOut), (⟨0, 0⟩ : GRef), 0⟩ : GFrame) none 0 none 0 none 0).toArray, .bool false], ⟨⟨kr, ⟨b21, 0, none⟩, kr, H.loadVar 3 rfl 0 kr⟩, ⟨kr, kr⟩, trivial⟩, ⟨h, none, 0, none, 0, none, 0, rfl, (Gh.refl _), (Sl.nil _ _ (Nat.zero_le _)), ((H.front 1 rfl).mid 2 2)⟩⟩
  }
  {
  refine WE.no kr (b := y34) kr t36 ?_
  refine WE.skip ?_
  refine WE.seq ?_
  refine WE.region ?_
  refine WL.sg 1 kr ?_
  refine WL.does kr kr (Does.loadV H 0 rfl 1 kr kr ?_)
  obtain ⟨⟨g0_39, g1_39, g2_39, g3_39⟩, hr⟩ := grd_cases hr
  refine WL.does kr kr (Does.make (K := rGValue) (B := 16) (e := 33) (z := .agg #[.int .i64 0, .int .i64 0]) H (z1 := ((gd x0 x1).Locals)) (z2 := ((gd x0 x1).Locals)) kr kr kr (y0 := (⟨0, 0⟩ : GValue)) (by show _ = _; kernel_rfl) g0_39 g1_39 g2_39 g3_39 fun b39 w H => ?_)
  refine WL.fin 1 kr kr ?_
  refine WE.seq ?_
  refine WE.region ?_
  refine WL.sg 2 kr ?_
  refine WL.does kr kr (Does.copy (t := 28) (xt := 28) (ty := 3) (e := 33) (z := .agg #[.int .i64 0, .int .i64 0]) H 0 rfl (Gh.refl _) (ys := x2) (c2 := c2) (f2.src H) kr kr fun w H => ?_)
  refine WL.spelt 11 (v := .slice (some ⟨b39, 0, none⟩) (copied (List.replicate ((gd x0 x1).Locals).toNat (⟨0, 0⟩ : GValue)) x2).length (((gd x0 x1).Locals).toNat)) kr (Eq.trans (b := .slice (some ⟨b39, 0, none⟩) (List.replicate ((gd x0 x1).Locals).toNat (⟨0, 0⟩ : GValue)).length (((gd x0 x1).Locals).toNat)) kr (sl_len (copied_len ..).symm)) ?_
  refine WL.fin 0 kr kr ?_
  refine WE.seq ?_
  refine WE.draws mo [1, 3, 8, 10, 11] (ρ' := [(1, .int .i64 x1), (3, .int .i64 x3), (8, .pointer (some ⟨b21, 0, none⟩)), (10, .pointer (some ⟨b32, 0, none⟩)), (11, .slice (some ⟨b39, 0, none⟩) (copied (List.replicate ((gd x0 x1).Locals).toNat (⟨0, 0⟩ : GValue)) x2).length (((gd x0 x1).Locals).toNat))]) kr fun w e1 e2 e3 e4 => ?_
  have H := H.same e1 e2 e3 e4
  clear e1 e2 e3 e4
  refine WD.know [0] kr ?_
  refine WD.know [1] kr ?_
  refine WD.know [2] kr ?_
  refine WD.told 3 64 (.int .i64 ((gd x0 x1).Slots)) kr kr ?_
  refine WD.know [5] kr ?_
  obtain ⟨⟨g0_40, g1_40, g2_40, g3_40⟩, hr⟩ := grd_cases hr
  obtain ⟨y41, q41, hr⟩ := bnd_cases hr
  refine WD.among 4 [6] kr (Floats.of [5, 2, 1, 0] [3] kr (Floats.pure _ kr kr) (.cons (.tells rfl kr rfl (.loadV H 1 rfl 2 kr kr)) .nil)) ⟨?_, ?_, trivial⟩
  {
  refine WT.does 4 kr rfl kr kr (Does.make (K := rGSlot) (B := 48) (e := 80) (z := .agg (cGSlot (⟨0, (⟨0, 0⟩ : GRef), (⟨0, (⟨0, 0⟩ : GValue)⟩ : GOut)⟩ : GSlot)).toArray) H (z1 := ((gd x0 x1).Slots)) (z2 := ((gd x0 x1).Slots)) kr kr kr (y0 := (⟨0, (⟨0, 0⟩ : GRef), (⟨0, (⟨0, 0⟩ : GValue)⟩ : GOut)⟩ : GSlot)) (by show _ = _; kernel_rfl) g0_40 g1_40 g2_40 g3_40 fun b40 w H => ?_)
  refine WD.does 6 kr rfl (Floats.of [5, 2, 1, 0] [] kr (Floats.pure _ kr kr) .nil) kr kr (Does.call (c_frame_noRef H q41) kr ?_)
  rintro _ w ⟨rfl, H⟩
  refine WD.know [7] kr ?_
  refine WD.does 8 kr rfl (Floats.of [7, 5, 2, 1, 0] [] kr (Floats.pure _ kr kr) .nil) kr kr (Does.storeE H 3 (cGFrame (⟨x1, 0, [], (copied (List.replicate ((gd x0 x1).Locals).toNat (⟨0, 0⟩ : GValue)) x2), (List.replicate ((gd x0 x1).Slots).toNat (⟨0, (⟨0, 0⟩ : GRef), (⟨0, (⟨0, 0⟩ : GValue)⟩ : GOut)⟩ : GSlot)), x3, 0, 0, 0, 0, (⟨0, (⟨0, 0⟩ : GValue)⟩ : GOut), y41, 0⟩ : GFrame) none 0 (some ⟨b39, 0, none⟩) (((gd x0 x1).Locals).toNat) (some ⟨b40, 0, none⟩) (((gd x0 x1).Slots).toNat)) rfl (q := 0) kr kr kr fun w H => ?_)
  refine WD.does 9 kr rfl (Floats.of [] [] kr .nil .nil) kr kr (Does.reck kr ?_)
  refine WD.fin kr (Floats.of [] [] kr .nil .nil) kr kr ?_
  obtain rfl := Option.some.inj hr
  exact WE.ret ⟨[.agg (cGFrame (⟨x1, 0, [], (copied (List.replicate ((gd x0 x1).Locals).toNat (⟨0, 0⟩ : GValue)) x2), (List.replicate ((gd x0 x1).Slots).toNat (⟨0, (⟨0, 0⟩ : GRef), (⟨0, (⟨0, 0⟩ : GValue)⟩ : GOut)⟩ : GSlot)), x3, 0, 0, 0, 0, (⟨0, (⟨0, 0⟩ : GValue)⟩ : GOut), y41, 0⟩ : GFrame) none 0 (some ⟨b39, 0, none⟩) (((gd x0 x1).Locals).toNat) (some ⟨b40, 0, none⟩) (((gd x0 x1).Slots).toNat)).toArray, .bool true], ⟨⟨kr, ⟨b21, 0, none⟩, kr, H.loadVar 3 rfl 0 kr⟩, ⟨kr, kr⟩, trivial⟩, ⟨h, none, 0, (some ⟨b39, 0, none⟩), ((gd x0 x1).Locals).toNat, (some ⟨b40, 0, none⟩), ((gd x0 x1).Slots).toNat, rfl, (Gh.refl _), (Sl.nil _ _ (Nat.zero_le _)), ((H.front 1 rfl).mid 2 2)⟩⟩
  }
  {
  refine WT.does 6 kr rfl kr kr (Does.call (c_frame_noRef H q41) kr ?_)
  rintro _ w ⟨rfl, H⟩
  refine WD.does 4 kr rfl (Floats.of [5, 2, 1, 0] [3] kr (Floats.pure _ kr kr) (.cons (.tells rfl kr rfl (.loadV H 1 rfl 2 kr kr)) .nil)) kr kr (Does.make (K := rGSlot) (B := 48) (e := 80) (z := .agg (cGSlot (⟨0, (⟨0, 0⟩ : GRef), (⟨0, (⟨0, 0⟩ : GValue)⟩ : GOut)⟩ : GSlot)).toArray) H (z1 := ((gd x0 x1).Slots)) (z2 := ((gd x0 x1).Slots)) kr kr kr (y0 := (⟨0, (⟨0, 0⟩ : GRef), (⟨0, (⟨0, 0⟩ : GValue)⟩ : GOut)⟩ : GSlot)) (by show _ = _; kernel_rfl) g0_40 g1_40 g2_40 g3_40 fun b40 w H => ?_)
  refine WD.know [7] kr ?_
  refine WD.does 8 kr rfl (Floats.of [7, 5, 2, 1, 0] [] kr (Floats.pure _ kr kr) .nil) kr kr (Does.storeE H 3 (cGFrame (⟨x1, 0, [], (copied (List.replicate ((gd x0 x1).Locals).toNat (⟨0, 0⟩ : GValue)) x2), (List.replicate ((gd x0 x1).Slots).toNat (⟨0, (⟨0, 0⟩ : GRef), (⟨0, (⟨0, 0⟩ : GValue)⟩ : GOut)⟩ : GSlot)), x3, 0, 0, 0, 0, (⟨0, (⟨0, 0⟩ : GValue)⟩ : GOut), y41, 0⟩ : GFrame) none 0 (some ⟨b39, 0, none⟩) (((gd x0 x1).Locals).toNat) (some ⟨b40, 0, none⟩) (((gd x0 x1).Slots).toNat)) rfl (q := 0) kr kr kr fun w H => ?_)
  refine WD.does 9 kr rfl (Floats.of [] [] kr .nil .nil) kr kr (Does.reck kr ?_)
  refine WD.fin kr (Floats.of [] [] kr .nil .nil) kr kr ?_
  obtain rfl := Option.some.inj hr
  exact WE.ret ⟨[.agg (cGFrame (⟨x1, 0, [], (copied (List.replicate ((gd x0 x1).Locals).toNat (⟨0, 0⟩ : GValue)) x2), (List.replicate ((gd x0 x1).Slots).toNat (⟨0, (⟨0, 0⟩ : GRef), (⟨0, (⟨0, 0⟩ : GValue)⟩ : GOut)⟩ : GSlot)), x3, 0, 0, 0, 0, (⟨0, (⟨0, 0⟩ : GValue)⟩ : GOut), y41, 0⟩ : GFrame) none 0 (some ⟨b39, 0, none⟩) (((gd x0 x1).Locals).toNat) (some ⟨b40, 0, none⟩) (((gd x0 x1).Slots).toNat)).toArray, .bool true], ⟨⟨kr, ⟨b21, 0, none⟩, kr, H.loadVar 3 rfl 0 kr⟩, ⟨kr, kr⟩, trivial⟩, ⟨h, none, 0, (some ⟨b39, 0, none⟩), ((gd x0 x1).Locals).toNat, (some ⟨b40, 0, none⟩), ((gd x0 x1).Slots).toNat, rfl, (Gh.refl _), (Sl.nil _ _ (Nat.zero_le _)), ((H.front 1 rfl).mid 2 2)⟩⟩
  }
  }
  }
  rcases ite_cases hy34 with ⟨ty34, hy34⟩ | ⟨ty34, hy34⟩
  {
  refine WL.known 50 ty34 kr kr ?_
  refine WL.sg 3 kr ?_
  obtain rfl := Option.some.inj hy34
  exact WL.live [1, 2, 3, 8, 10, 53] kr (hk_y34 () _ H)
  }
  {
  refine WL.known 50 ty34 kr kr ?_
  obtain ⟨y42, q42, hy34⟩ := bind_cases hy34
  refine WL.sg 1 kr ?_
  refine WL.does kr kr (Does.call (c_slices_ContainsFunc_Value_at22 K x2 f2 H q42) kr ?_)
  rintro _ w ⟨rfl, H⟩
  refine WL.sg 1 kr ?_
  obtain rfl := Option.some.inj hy34
  exact WL.live [1, 2, 3, 8, 10, 53] kr (hk_y34 () _ H)
  }
  }
  rcases ite_cases hy33 with ⟨ty33, hy33⟩ | ⟨ty33, hy33⟩
  {
  refine WL.known 43 ty33 kr kr ?_
  refine WL.sg 6 kr ?_
  obtain rfl := hy33
  exact WL.live [1, 2, 3, 8, 10, 49] kr (hk_y33 () _ H)
  }
  {
  refine WL.known 43 ty33 kr kr ?_
  refine WL.sg 3 kr ?_
  refine WL.does kr kr (Does.loadV H 0 rfl 0 kr kr ?_)
  refine WL.sg 2 kr ?_
  obtain rfl := hy33
  exact WL.live [1, 2, 3, 8, 10, 49] kr (hk_y33 () _ H)
  }
  }
  }
  rcases ite_cases hy26 with ⟨ty26, hy26⟩ | ⟨ty26, hy26⟩
  {
  refine WL.known 29 ty26 kr kr ?_
  refine WL.sg 3 kr ?_
  obtain rfl := hy26
  exact WL.live [0, 1, 2, 3, 8, 32] kr (hk_y26 () _ H)
  }
  {
  refine WL.known 29 ty26 kr kr ?_
  refine WL.sg 3 kr ?_
  obtain rfl := hy26
  exact WL.live [0, 1, 2, 3, 8, 32] kr (hk_y26 () _ H)
  }
  }
  rcases ite_cases hy25 with ⟨ty25, hy25⟩ | ⟨ty25, hy25⟩
  {
  refine WL.known 25 ty25 kr kr ?_
  refine WL.sg 3 kr ?_
  obtain rfl := hy25
  exact WL.live [0, 1, 2, 3, 8, 28] kr (hk_y25 () _ H)
  }
  {
  refine WL.known 25 ty25 kr kr ?_
  refine WL.sg 3 kr ?_
  obtain rfl := hy25
  exact WL.live [0, 1, 2, 3, 8, 28] kr (hk_y25 () _ H)
  }
  }
  rcases ite_cases hy24 with ⟨ty24, hy24⟩ | ⟨ty24, hy24⟩
  {
  refine WL.known 19 ty24 kr kr ?_
  refine WL.sg 5 kr ?_
  obtain rfl := hy24
  exact WL.live [0, 1, 2, 3, 8, 24] kr (hk_y24 () _ H)
  }
  {
  refine WL.known 19 ty24 kr kr ?_
  refine WL.sg 5 kr ?_
  obtain rfl := hy24
  exact WL.live [0, 1, 2, 3, 8, 24] kr (hk_y24 () _ H)
  }
  }
  rcases ite_cases hy23 with ⟨ty23, hy23⟩ | ⟨ty23, hy23⟩
  {
  refine WL.known 15 ty23 kr kr ?_
  refine WL.sg 3 kr ?_
  obtain rfl := hy23
  exact WL.live [0, 1, 2, 3, 8, 18] kr (hk_y23 () _ H)
  }
  {
  refine WL.known 15 ty23 kr kr ?_
  refine WL.sg 3 kr ?_
  obtain rfl := hy23
  exact WL.live [0, 1, 2, 3, 8, 18] kr (hk_y23 () _ H)
  }
def slices_Clone_Value (x0 : List GValue) : Option (List GValue) := if x0.length * 16 ≤ LIM then some x0 else none
set_option maxRecDepth 100000 in
theorem c_slices_Clone_Value {w0 w : World} {h : Gh} {L : List Ent} (x0 : List GValue) {a : Option Addr} {c : Nat} (f : Sl rGValue 16 h a c x0) (H : St w0 h w L) {r : List GValue} (hr : slices_Clone_Value x0 = some r) : Calls Try.prog 54 #[.slice a x0.length c] w (fun e w' => ∃ v, e = .returned v ∧ ∃ (h' : Gh) (a1 : Option Addr) (c1 : Nat), v = .slice a1 r.length c1 ∧ h.le h' ∧ St w0 h' w' (row rGValue 16 h' a1 c1 r :: L)) := by
  refine calls_of (args := [.slice a x0.length c]) (n := 8) (rs := [.tmp 2]) Try.func54 rfl rfl rfl rfl rfl ?_
  unfold slices_Clone_Value at hr
  obtain ⟨hB, hr⟩ := grd_cases hr
  obtain rfl := Option.some.inj hr
  cases a with
  | none =>
    have hx := f.none
    subst hx
    refine WE.seq (WE.region (WL.fin 1 (by kernel_rfl) (by kernel_rfl) ?_))
    refine WE.seq (WE.seq (WE.region (WL.fin 2 (by kernel_rfl) (by kernel_rfl) ?_)))
    refine WE.yes (by kernel_rfl) (b := true) (by kernel_rfl) rfl ?_
    refine WE.seq (WE.region (WL.fin 1 (by kernel_rfl) (by kernel_rfl) ?_))
    exact WE.ret ⟨[.slice none 0 0], ⟨⟨by kernel_rfl, by kernel_rfl⟩, trivial⟩, ⟨h, none, 0, rfl, Gh.refl _, H.rowNil _ _⟩⟩
  | some ad =>
    refine WE.seq (WE.region (WL.fin 1 (by kernel_rfl) (by kernel_rfl) ?_))
    refine WE.seq (WE.seq (WE.region (WL.fin 2 (by kernel_rfl) (by kernel_rfl) ?_)))
    refine WE.no (by kernel_rfl) (b := false) (by kernel_rfl) rfl (WE.skip ?_)
    refine WE.seq (WE.region ?_)
    refine WL.does (by kernel_rfl) (by kernel_rfl) (Does.lit (K := rGValue) (B := 16) (xs := []) (e := 33) H [] (by kernel_rfl) Rows.nil (by kernel_rfl) (by kernel_rfl) (by kernel_rfl) (by kernel_rfl) fun b w H => ?_)
    refine WL.sg 1 (by kernel_rfl) ?_
    refine WL.does (by kernel_rfl) (by kernel_rfl) (Does.append (t := 28) (xt := 28) (ty := 28) (e := 33) (e2 := 33) (z := .agg #[.int .i64 0, .int .i64 0]) H 0 rfl (Gh.refl _) (ys := x0) (c2 := c) (f.src H) (by simpa using hB) (by kernel_rfl) (by kernel_rfl) (by kernel_rfl) (by kernel_rfl) fun a1 c1 w H => ?_)
    refine WL.fin 1 (by kernel_rfl) (by kernel_rfl) ?_
    exact WE.ret ⟨[.slice a1 ([] ++ x0).length c1], ⟨⟨by kernel_rfl, by kernel_rfl⟩, trivial⟩, ⟨h, a1, c1, rfl, Gh.refl _, H⟩⟩
def slices_Clone_Slot (x0 : List GSlot) : Option (List GSlot) := if x0.length * 48 ≤ LIM then some x0 else none
set_option maxRecDepth 100000 in
theorem c_slices_Clone_Slot {w0 w : World} {h : Gh} {L : List Ent} (x0 : List GSlot) {a : Option Addr} {c : Nat} (f : Sl rGSlot 48 h a c x0) (H : St w0 h w L) {r : List GSlot} (hr : slices_Clone_Slot x0 = some r) : Calls Try.prog 55 #[.slice a x0.length c] w (fun e w' => ∃ v, e = .returned v ∧ ∃ (h' : Gh) (a1 : Option Addr) (c1 : Nat), v = .slice a1 r.length c1 ∧ h.le h' ∧ St w0 h' w' (row rGSlot 48 h' a1 c1 r :: L)) := by
  refine calls_of (args := [.slice a x0.length c]) (n := 8) (rs := [.tmp 2]) Try.func55 rfl rfl rfl rfl rfl ?_
  unfold slices_Clone_Slot at hr
  obtain ⟨hB, hr⟩ := grd_cases hr
  obtain rfl := Option.some.inj hr
  cases a with
  | none =>
    have hx := f.none
    subst hx
    refine WE.seq (WE.region (WL.fin 1 (by kernel_rfl) (by kernel_rfl) ?_))
    refine WE.seq (WE.seq (WE.region (WL.fin 2 (by kernel_rfl) (by kernel_rfl) ?_)))
    refine WE.yes (by kernel_rfl) (b := true) (by kernel_rfl) rfl ?_
    refine WE.seq (WE.region (WL.fin 1 (by kernel_rfl) (by kernel_rfl) ?_))
    exact WE.ret ⟨[.slice none 0 0], ⟨⟨by kernel_rfl, by kernel_rfl⟩, trivial⟩, ⟨h, none, 0, rfl, Gh.refl _, H.rowNil _ _⟩⟩
  | some ad =>
    refine WE.seq (WE.region (WL.fin 1 (by kernel_rfl) (by kernel_rfl) ?_))
    refine WE.seq (WE.seq (WE.region (WL.fin 2 (by kernel_rfl) (by kernel_rfl) ?_)))
    refine WE.no (by kernel_rfl) (b := false) (by kernel_rfl) rfl (WE.skip ?_)
    refine WE.seq (WE.region ?_)
    refine WL.does (by kernel_rfl) (by kernel_rfl) (Does.lit (K := rGSlot) (B := 48) (xs := []) (e := 80) H [] (by kernel_rfl) Rows.nil (by kernel_rfl) (by kernel_rfl) (by kernel_rfl) (by kernel_rfl) fun b w H => ?_)
    refine WL.sg 1 (by kernel_rfl) ?_
    refine WL.does (by kernel_rfl) (by kernel_rfl) (Does.append (t := 34) (xt := 34) (ty := 34) (e := 80) (e2 := 80) (z := .agg (cGSlot (⟨0, (⟨0, 0⟩ : GRef), (⟨0, (⟨0, 0⟩ : GValue)⟩ : GOut)⟩ : GSlot)).toArray) H 0 rfl (Gh.refl _) (ys := x0) (c2 := c) (f.src H) (by simpa using hB) (by kernel_rfl) (by kernel_rfl) (by kernel_rfl) (by kernel_rfl) fun a1 c1 w H => ?_)
    refine WL.fin 1 (by kernel_rfl) (by kernel_rfl) ?_
    exact WE.ret ⟨[.slice a1 ([] ++ x0).length c1], ⟨⟨by kernel_rfl, by kernel_rfl⟩, trivial⟩, ⟨h, a1, c1, rfl, Gh.refl _, H⟩⟩
def frame_clone (x0 : GFrame) : Option GFrame :=
  (slices_Clone_Value x0.Stack).bind fun y17 =>
  (slices_Clone_Value x0.Locals).bind fun y20 =>
  (slices_Clone_Slot x0.Slots).bind fun y23 =>
  some ({ x0 with Stack := y17, Locals := y20, Slots := y23 })
set_option maxRecDepth 100000 in
set_option maxHeartbeats 4000000 in
theorem c_frame_clone {w0 w : World} {h : Gh} {L : List Ent} (x0 : GFrame) {a1 : Option Addr} {c1 : Nat} {a2 : Option Addr} {c2 : Nat} {a3 : Option Addr} {c3 : Nat} (f1 : Sl rGValue 16 h a1 c1 x0.Stack) (f2 : Sl rGValue 16 h a2 c2 x0.Locals) (f3 : Sl rGSlot 48 h a3 c3 x0.Slots) (H : St w0 h w L) {r : GFrame} (hr : frame_clone x0 = some r) : Calls Try.prog 26 #[.agg (cGFrame x0 a1 c1 a2 c2 a3 c3).toArray] w (fun e w' => ∃ v, e = .returned v ∧ ∃ (h' : Gh) (a901 : Option Addr) (c901 : Nat) (a902 : Option Addr) (c902 : Nat) (a903 : Option Addr) (c903 : Nat), v = .agg (cGFrame r a901 c901 a902 c902 a903 c903).toArray ∧ h.le h' ∧ St w0 h' w' (row rGValue 16 h' a901 c901 r.Stack :: row rGValue 16 h' a902 c902 r.Locals :: row rGSlot 48 h' a903 c903 r.Slots :: L)) := by
  refine calls_of (args := [.agg (cGFrame x0 a1 c1 a2 c2 a3 c3).toArray]) (n := 16) (rs := [.cell 2 40]) Try.func26 rfl rfl rfl rfl rfl ?_
  unfold frame_clone at hr
  refine WE.seq ?_
  refine WE.region ?_
  refine WL.does kr kr (Does.box H (cGFrame x0 a1 c1 a2 c2 a3 c3) kr fun b15 w H => ?_)
  refine WL.does kr kr (Does.alloc H (cGFrame (⟨0, 0, [], [], [], 0, 0, 0, 0, 0, (⟨0, (⟨0, 0⟩ : GValue)⟩ : GOut), (⟨0, 0⟩ : GRef), 0⟩ : GFrame) none 0 none 0 none 0) kr fun b16 w H => ?_)
  refine WL.fin 0 kr kr ?_
  refine WE.seq ?_
  refine WE.draws mo [1, 2] (ρ' := [(1, .pointer (some ⟨b15, 0, none⟩)), (2, .pointer (some ⟨b16, 0, none⟩))]) kr fun w e1 e2 e3 e4 => ?_
  have H := H.same e1 e2 e3 e4
  clear e1 e2 e3 e4
  refine WD.know [0] kr ?_
  refine WD.told 1 4 (.slice a1 x0.Stack.length c1) kr kr ?_
  refine WD.know [3] kr ?_
  refine WD.told 4 7 (.slice a2 x0.Locals.length c2) kr kr ?_
  refine WD.know [6] kr ?_
  refine WD.told 7 10 (.slice a3 x0.Slots.length c3) kr kr ?_
  obtain ⟨y17, q17, hr⟩ := bind_cases hr
  refine WD.does 2 kr rfl (Floats.of [6, 3, 0] [7, 4, 1] kr (Floats.pure _ kr kr) (.cons (.tells rfl kr rfl (.loadV H 1 rfl 4 kr kr)) (.cons (.tells rfl kr rfl (.loadV H 1 rfl 3 kr kr)) (.cons (.tells rfl kr rfl (.loadV H 1 rfl 2 kr kr)) .nil)))) kr kr (Does.call (c_slices_Clone_Value x0.Stack f1 H q17) kr ?_)
  rintro _ w ⟨h17, a18, c18, rfl, le17, H⟩
  refine WD.know [9] kr ?_
  obtain ⟨y20, q20, hr⟩ := bind_cases hr
  refine WD.does 5 kr rfl (Floats.of [9, 6, 3, 0] [7, 4] kr (Floats.pure _ kr kr) (.cons (.tells rfl kr rfl (.loadV H 2 rfl 4 kr kr)) (.cons (.tells rfl kr rfl (.loadV H 2 rfl 3 kr kr)) .nil))) kr kr (Does.call (c_slices_Clone_Value x0.Locals (f2.up le17) H q20) kr ?_)
  rintro _ w ⟨h20, a21, c21, rfl, le20, H⟩
  obtain ⟨y23, q23, hr⟩ := bind_cases hr
  refine WD.does 8 kr rfl (Floats.of [9, 6, 3, 0] [7] kr (Floats.pure _ kr kr) (.cons (.tells rfl kr rfl (.loadV H 3 rfl 4 kr kr)) .nil)) kr kr (Does.call (c_slices_Clone_Slot x0.Slots ((f3.up le17).up le20) H q23) kr ?_)
  rintro _ w ⟨h23, a24, c24, rfl, le23, H⟩
  refine WD.does 10 kr rfl (Floats.of [9, 6, 3, 0] [] kr (Floats.pure _ kr kr) .nil) kr kr (Does.storeE H 4 (cGFrame ({ x0 with Stack := y17 }) a18 c18 a2 c2 a3 c3) rfl (q := 2) kr kr kr fun w H => ?_)
  refine WD.know [11] kr ?_
  refine WD.does 12 kr rfl (Floats.of [11] [] kr (Floats.pure _ kr kr) .nil) kr kr (Does.storeE H 4 (cGFrame ({ x0 with Stack := y17, Locals := y20 }) a18 c18 a21 c21 a3 c3) rfl (q := 3) kr kr kr fun w H => ?_)
  refine WD.know [13] kr ?_
  refine WD.does 14 kr rfl (Floats.of [13] [] kr (Floats.pure _ kr kr) .nil) kr kr (Does.storeE H 4 (cGFrame ({ x0 with Stack := y17, Locals := y20, Slots := y23 }) a18 c18 a21 c21 a24 c24) rfl (q := 4) kr kr kr fun w H => ?_)
  refine WD.fin kr (Floats.of [] [] kr .nil .nil) kr kr ?_
  refine WE.seq ?_
  refine WE.region ?_
  refine WL.does kr kr (Does.loadV H 4 rfl 0 kr kr ?_)
  refine WL.does kr kr (Does.storeE H 3 (cGFrame ({ x0 with Stack := y17, Locals := y20, Slots := y23 }) a18 c18 a21 c21 a24 c24) rfl (q := 0) kr kr kr fun w H => ?_)
  refine WL.fin 0 kr kr ?_
  have H := H.rowUp 2 rfl (le20.trans le23)
  have H := H.rowUp 1 rfl le23
  obtain rfl := Option.some.inj hr
  exact WE.ret ⟨[.agg (cGFrame ({ x0 with Stack := y17, Locals := y20, Slots := y23 }) a18 c18 a21 c21 a24 c24).toArray], ⟨⟨kr, ⟨b16, 0, none⟩, kr, H.loadVar 3 rfl 0 kr⟩, trivial⟩, ⟨h23, a18, c18, a21, c21, a24, c24, rfl, ((le17.trans le20).trans le23), (((H.front 1 rfl).front 2 rfl).mid 3 2)⟩⟩
def frame_runner_there (x0 : Grunner) (x1 : List GInstr) : Option (Bool × Int × Int × Int) :=
  bnd (
      if decide (x0.Frame.Pc < 0) then
        true
      else
        decide (x0.Frame.Pc ≥ (x1.length : Int))) fun y24 =>
  (
      if y24 then
        some true
      else
        if 0 ≤ x0.Frame.Pc ∧ x0.Frame.Pc < x1.length then
          bnd (op_May (⟨(gd x1 x0.Frame.Pc).Op, (gd x1 x0.Frame.Pc).A, (gd x1 x0.Frame.Pc).B⟩ : GInstr)) fun y40 =>
          some (!y40)
        else none).bind fun y25 =>
  if y25 then
    some (false, x0.x.Op, x0.x.A, x0.x.B)
  else
    if 0 ≤ x0.Frame.Pc ∧ x0.Frame.Pc < x1.length then
      if ((gd x1 x0.Frame.Pc).Op) == 1 then
        if ((gd x1 x0.Frame.Pc).Op) == 1 then
          some (decide (((gd x1 x0.Frame.Pc).A) < (x0.Frame.Locals.length : Int)), (gd x1 x0.Frame.Pc).Op, (gd x1 x0.Frame.Pc).A, (gd x1 x0.Frame.Pc).B)
        else
          if ((gd x1 x0.Frame.Pc).Op) == 14 then
            some (decide (((gd x1 x0.Frame.Pc).A) < (x0.Frame.Slots.length : Int)), (gd x1 x0.Frame.Pc).Op, (gd x1 x0.Frame.Pc).A, (gd x1 x0.Frame.Pc).B)
          else
            if ((gd x1 x0.Frame.Pc).Op) == 13 then
              if decide (((gd x1 x0.Frame.Pc).A) < (x0.p.length : Int)) then
                some (decide (((gd x1 x0.Frame.Pc).B) < (x0.Frame.Slots.length : Int)), (gd x1 x0.Frame.Pc).Op, (gd x1 x0.Frame.Pc).A, (gd x1 x0.Frame.Pc).B)
              else
                some (false, (gd x1 x0.Frame.Pc).Op, (gd x1 x0.Frame.Pc).A, (gd x1 x0.Frame.Pc).B)
            else
              some (true, (gd x1 x0.Frame.Pc).Op, (gd x1 x0.Frame.Pc).A, (gd x1 x0.Frame.Pc).B)
      else
        if ((gd x1 x0.Frame.Pc).Op) == 2 then
          some (decide (((gd x1 x0.Frame.Pc).A) < (x0.Frame.Locals.length : Int)), (gd x1 x0.Frame.Pc).Op, (gd x1 x0.Frame.Pc).A, (gd x1 x0.Frame.Pc).B)
        else
          if ((gd x1 x0.Frame.Pc).Op) == 14 then
            some (decide (((gd x1 x0.Frame.Pc).A) < (x0.Frame.Slots.length : Int)), (gd x1 x0.Frame.Pc).Op, (gd x1 x0.Frame.Pc).A, (gd x1 x0.Frame.Pc).B)
          else
            if ((gd x1 x0.Frame.Pc).Op) == 13 then
              if decide (((gd x1 x0.Frame.Pc).A) < (x0.p.length : Int)) then
                some (decide (((gd x1 x0.Frame.Pc).B) < (x0.Frame.Slots.length : Int)), (gd x1 x0.Frame.Pc).Op, (gd x1 x0.Frame.Pc).A, (gd x1 x0.Frame.Pc).B)
              else
                some (false, (gd x1 x0.Frame.Pc).Op, (gd x1 x0.Frame.Pc).A, (gd x1 x0.Frame.Pc).B)
            else
              some (true, (gd x1 x0.Frame.Pc).Op, (gd x1 x0.Frame.Pc).A, (gd x1 x0.Frame.Pc).B)
    else none
set_option maxRecDepth 100000 in
set_option maxHeartbeats 4000000 in
theorem c_frame_runner_there {w0 w : World} {h : Gh} {L : List Ent} (x0 : Grunner) {a1 : Option Addr} {c1 : Nat} {a2 : Option Addr} {c2 : Nat} {a3 : Option Addr} {c3 : Nat} {a4 : Option Addr} {c4 : Nat} {a5 : Option Addr} {c5 : Nat} (f4 : Sl rGFunc 48 h a4 c4 x0.p) (f5 : Sl rGValue 16 h a5 c5 x0.act.Args) {b_0 : Nat} (x1 : List GInstr) {a6 : Option Addr} {c6 : Nat} (f6 : Sl rGInstr 24 h a6 c6 x1) (H : St w0 h w (var b_0 (cGrunner x0 a1 c1 a2 c2 a3 c3 a4 c4 a5 c5) 73 :: row rGValue 16 h a1 c1 x0.Frame.Stack :: row rGValue 16 h a2 c2 x0.Frame.Locals :: row rGSlot 48 h a3 c3 x0.Frame.Slots :: L)) {r : Bool × Int × Int × Int} (hr : frame_runner_there x0 x1 = some r) : Calls Try.prog 27 #[.pointer (some ⟨b_0, 0, none⟩), .slice a6 x1.length c6] w (fun e w' => ∃ v, e = .returned v ∧ v = .bool r.1 ∧ St w0 h w' (var b_0 (cGrunner ({ x0 with x := (⟨r.2.1, r.2.2.1, r.2.2.2⟩ : GInstr) }) a1 c1 a2 c2 a3 c3 a4 c4 a5 c5) 73 :: row rGValue 16 h a1 c1 x0.Frame.Stack :: row rGValue 16 h a2 c2 x0.Frame.Locals :: row rGSlot 48 h a3 c3 x0.Frame.Slots :: L)) := by
  refine calls_of (args := [.pointer (some ⟨b_0, 0, none⟩), .slice a6 x1.length c6]) (n := 105) (rs := [.tmp 4]) Try.func27 rfl rfl rfl rfl rfl ?_
  unfold frame_runner_there at hr
  refine WE.seq ?_
  refine WE.region ?_
  refine WL.fin 1 kr kr ?_
  refine WE.seq ?_
  refine WE.seq ?_
  refine WE.region ?_
  refine WL.sg 4 kr ?_
  refine WL.does kr kr (Does.loadV H 0 rfl 1 kr kr ?_)
  refine WL.sg 2 kr ?_
  obtain ⟨y24, hy24, hr⟩ := bnd_cases hr
  refine WL.join 9 (fun (_ : Unit) => [(0, .pointer (some ⟨b_0, 0, none⟩)), (1, .slice a6 x1.length c6), (20, .bool y24)]) (fun (_ : Unit) w => St w0 h w (var b_0 (cGrunner x0 a1 c1 a2 c2 a3 c3 a4 c4 a5 c5) 73 :: row rGValue 16 h a1 c1 x0.Frame.Stack :: row rGValue 16 h a2 c2 x0.Frame.Locals :: row rGSlot 48 h a3 c3 x0.Frame.Slots :: L)) ?_ (fun hk_y24 => ?_)
  {
  rintro _ w H
  refine WL.sg 1 kr ?_
  obtain ⟨y25, hy25, hr⟩ := bind_cases hr
  refine WL.join 11 (fun (_ : Unit) => [(0, .pointer (some ⟨b_0, 0, none⟩)), (1, .slice a6 x1.length c6), (32, .bool y25)]) (fun (_ : Unit) w => St w0 h w (var b_0 (cGrunner x0 a1 c1 a2 c2 a3 c3 a4 c4 a5 c5) 73 :: row rGValue 16 h a1 c1 x0.Frame.Stack :: row rGValue 16 h a2 c2 x0.Frame.Locals :: row rGSlot 48 h a3 c3 x0.Frame.Slots :: L)) ?_ (fun hk_y25 => ?_)
  {
  rintro _ w H
  refine WL.fin 0 kr kr ?_
  rcases ite_cases hr with ⟨t28, hr⟩ | ⟨t28, hr⟩
  {
  refine WE.yes kr (b := y25) kr t28 ?_
  refine WE.seq ?_
  refine WE.region ?_
  refine WL.fin 1 kr kr ?_
  obtain rfl := Option.some.inj hr
  exact WE.ret ⟨[.bool false], ⟨⟨kr, kr⟩, trivial⟩, ⟨rfl, H⟩⟩
  }
  {
  refine WE.no kr (b := y25) kr t28 ?_
  refine WE.skip ?_
  refine WE.seq ?_
  refine WE.region ?_
  refine WL.sg 6 kr ?_
  refine WL.does kr kr (Does.loadV H 0 rfl 1 kr kr ?_)
  obtain ⟨⟨g0_29, g1_29⟩, hr⟩ := grd_cases hr
  obtain ⟨b29, p29, C29, e29, fr29, cs29, rfl, hb29, hc29, rfl⟩ := f6.at g0_29 g1_29
  refine WL.does kr kr (Does.tells (.idx b29 (p29) x1.length c6 x0.Frame.Pc 3 kr kr g0_29 g1_29 kr) ?_)
  refine WL.does kr kr (Does.loadR H hb29 hc29 0 kr kr ?_)
  refine WL.sg 2 kr ?_
  refine WL.does kr kr (Does.storeE H 0 (cGrunner ({ x0 with x := (⟨(gd x1 x0.Frame.Pc).Op, (gd x1 x0.Frame.Pc).A, (gd x1 x0.Frame.Pc).B⟩ : GInstr) }) a1 c1 a2 c2 a3 c3 a4 c4 a5 c5) rfl (q := 17) kr kr kr fun w H => ?_)
  refine WL.fin 0 kr kr ?_
  refine WE.seq ?_
  refine WE.seq ?_
  refine WE.region ?_
  refine WL.sg 4 kr ?_
  refine WL.does kr kr (Does.loadV H 0 rfl 17 kr kr ?_)
  refine WL.fin 0 kr kr ?_
  refine WE.block ?_
  refine WE.seq ?_
  refine WE.seq ?_
  refine WE.region ?_
  refine WL.fin 2 kr kr ?_
  rcases ite_cases hr with ⟨t30, hr⟩ | ⟨t30, hr⟩
  {
  refine WE.yes kr (b := ((gd x1 x0.Frame.Pc).Op) == 1) kr t30 ?_
  refine WE.skip ?_
  rcases ite_cases hr with ⟨t31, hr⟩ | ⟨t31, hr⟩
  {
  refine WE.yes kr (b := ((gd x1 x0.Frame.Pc).Op) == 1) kr t31 ?_
  refine WE.seq ?_
  refine WE.draws mo [0] (ρ' := [(0, .pointer (some ⟨b_0, 0, none⟩))]) kr fun w e1 e2 e3 e4 => ?_
  have H := H.same e1 e2 e3 e4
  clear e1 e2 e3 e4
  refine WD.know [0] kr ?_
  refine WD.know [1] kr ?_
  refine WD.know [2] kr ?_
  refine WD.know [3] kr ?_
  refine WD.told 4 56 (.int .i64 ((gd x1 x0.Frame.Pc).A)) kr kr ?_
  refine WD.know [5] kr ?_
  refine WD.know [6] kr ?_
  refine WD.know [7] kr ?_
  refine WD.know [8] kr ?_
  refine WD.told 9 61 (.slice a2 x0.Frame.Locals.length c2) kr kr ?_
  refine WD.know [10] kr ?_
  refine WD.know [11] kr ?_
  refine WD.does 12 kr rfl (Floats.of [11, 10, 8, 7, 6, 5, 3, 2, 1, 0] [9, 4] kr (Floats.pure _ kr kr) (.cons (.tells rfl kr rfl (.loadV H 0 rfl 3 kr kr)) (.cons (.tells rfl kr rfl (.loadV H 0 rfl 18 kr kr)) .nil))) kr kr (Does.reck kr ?_)
  refine WD.fin kr (Floats.of [] [] kr .nil .nil) kr kr ?_
  obtain rfl := Option.some.inj hr
  exact WE.ret ⟨[.bool (decide (((gd x1 x0.Frame.Pc).A) < (x0.Frame.Locals.length : Int)))], ⟨⟨kr, kr⟩, trivial⟩, ⟨rfl, H⟩⟩
  }
  {
  refine WE.no kr (b := ((gd x1 x0.Frame.Pc).Op) == 1) kr t31 ?_
  refine WE.seq ?_
  refine WE.region ?_
  refine WL.fin 2 kr kr ?_
  rcases ite_cases hr with ⟨t32, hr⟩ | ⟨t32, hr⟩
  {
  refine WE.yes kr (b := ((gd x1 x0.Frame.Pc).Op) == 14) kr t32 ?_
  refine WE.seq ?_
  refine WE.draws mo [0] (ρ' := [(0, .pointer (some ⟨b_0, 0, none⟩))]) kr fun w e1 e2 e3 e4 => ?_
  have H := H.same e1 e2 e3 e4
  clear e1 e2 e3 e4
  refine WD.know [0] kr ?_
  refine WD.know [1] kr ?_
  refine WD.know [2] kr ?_
  refine WD.know [3] kr ?_
  refine WD.told 4 70 (.int .i64 ((gd x1 x0.Frame.Pc).A)) kr kr ?_
  refine WD.know [5] kr ?_
  refine WD.know [6] kr ?_
  refine WD.know [7] kr ?_
  refine WD.know [8] kr ?_
  refine WD.told 9 75 (.slice a3 x0.Frame.Slots.length c3) kr kr ?_
  refine WD.know [10] kr ?_
  refine WD.know [11] kr ?_
  refine WD.does 12 kr rfl (Floats.of [11, 10, 8, 7, 6, 5, 3, 2, 1, 0] [9, 4] kr (Floats.pure _ kr kr) (.cons (.tells rfl kr rfl (.loadV H 0 rfl 4 kr kr)) (.cons (.tells rfl kr rfl (.loadV H 0 rfl 18 kr kr)) .nil))) kr kr (Does.reck kr ?_)
  refine WD.fin kr (Floats.of [] [] kr .nil .nil) kr kr ?_
  obtain rfl := Option.some.inj hr
  exact WE.ret ⟨[.bool (decide (((gd x1 x0.Frame.Pc).A) < (x0.Frame.Slots.length : Int)))], ⟨⟨kr, kr⟩, trivial⟩, ⟨rfl, H⟩⟩
  }
  {
  refine WE.no kr (b := ((gd x1 x0.Frame.Pc).Op) == 14) kr t32 ?_
  refine WE.seq ?_
  refine WE.region ?_
  refine WL.fin 2 kr kr ?_
  rcases ite_cases hr with ⟨t33, hr⟩ | ⟨t33, hr⟩
  {
  refine WE.yes kr (b := ((gd x1 x0.Frame.Pc).Op) == 13) kr t33 ?_
  refine WE.seq ?_
  refine WE.draws mo [0] (ρ' := [(0, .pointer (some ⟨b_0, 0, none⟩))]) kr fun w e1 e2 e3 e4 => ?_
  have H := H.same e1 e2 e3 e4
  clear e1 e2 e3 e4
  refine WD.know [0] kr ?_
  refine WD.know [1] kr ?_
  refine WD.know [2] kr ?_
  refine WD.know [3] kr ?_
  refine WD.told 4 84 (.int .i64 ((gd x1 x0.Frame.Pc).A)) kr kr ?_
  refine WD.know [5] kr ?_
  refine WD.know [6] kr ?_
  refine WD.know [7] kr ?_
  refine WD.told 8 88 (.slice a4 x0.p.length c4) kr kr ?_
  refine WD.know [9] kr ?_
  refine WD.know [10] kr ?_
  refine WD.know [11] kr ?_
  rcases ite_cases hr with ⟨t34, hr⟩ | ⟨t34, hr⟩
  {
  refine WD.known 91 t34 kr kr ?_
  refine WD.know [12] kr ?_
  refine WD.know [13] kr ?_
  refine WD.know [14] kr ?_
  refine WD.know [15] kr ?_
  refine WD.told 16 96 (.int .i64 ((gd x1 x0.Frame.Pc).B)) kr kr ?_
  refine WD.know [17] kr ?_
  refine WD.know [18] kr ?_
  refine WD.know [19] kr ?_
  refine WD.know [20] kr ?_
  refine WD.told 21 101 (.slice a3 x0.Frame.Slots.length c3) kr kr ?_
  refine WD.know [22] kr ?_
  refine WD.know [23] kr ?_
  refine WD.know [24] kr ?_
  refine WD.does 25 kr rfl (Floats.of [24, 23, 22, 20, 19, 18, 17, 15, 14, 13, 12, 10, 9, 7, 6, 5, 3, 2, 1, 0] [21, 16, 11, 8, 4] kr (Floats.pure _ kr kr) (.cons (.tells rfl kr rfl (.loadV H 0 rfl 4 kr kr)) (.cons (.tells rfl kr rfl (.loadV H 0 rfl 19 kr kr)) (.cons (.tells rfl kr kr (.calmB t34 kr)) (.cons (.tells rfl kr rfl (.loadV H 0 rfl 16 kr kr)) (.cons (.tells rfl kr rfl (.loadV H 0 rfl 18 kr kr)) .nil)))))) kr kr (Does.reck kr ?_)
  refine WD.fin kr (Floats.of [] [] kr .nil .nil) kr kr ?_
  obtain rfl := Option.some.inj hr
  exact WE.ret ⟨[.bool (decide (((gd x1 x0.Frame.Pc).B) < (x0.Frame.Slots.length : Int)))], ⟨⟨kr, kr⟩, trivial⟩, ⟨rfl, H⟩⟩
  }
  {
  refine WD.known 91 t34 kr kr ?_
  refine WD.know [12] kr ?_
  refine WD.know [13] kr ?_
  refine WD.know [14] kr ?_
  refine WD.know [15] kr ?_
  refine WD.know [16] kr ?_
  refine WD.know [17] kr ?_
  refine WD.know [18] kr ?_
  refine WD.know [19] kr ?_
  refine WD.know [20] kr ?_
  refine WD.know [21] kr ?_
  refine WD.know [22] kr ?_
  refine WD.know [23] kr ?_
  refine WD.know [24] kr ?_
  refine WD.does 25 kr rfl (Floats.of [24, 23, 22, 21, 20, 19, 18, 17, 16, 15, 14, 13, 12, 10, 9, 7, 6, 5, 3, 2, 1, 0] [11, 8, 4] kr (Floats.pure _ kr kr) (.cons (.tells rfl kr kr (.calmB t34 kr)) (.cons (.tells rfl kr rfl (.loadV H 0 rfl 16 kr kr)) (.cons (.tells rfl kr rfl (.loadV H 0 rfl 18 kr kr)) .nil)))) kr kr (Does.reck kr ?_)
  refine WD.fin kr (Floats.of [] [] kr .nil .nil) kr kr ?_
  obtain rfl := Option.some.inj hr
  exact WE.ret ⟨[.bool false], ⟨⟨kr, kr⟩, trivial⟩, ⟨rfl, H⟩⟩
  }
  }
  {
  refine WE.no kr (b := ((gd x1 x0.Frame.Pc).Op) == 13) kr t33 ?_
  refine WE.skip ?_
  refine WE.seq ?_
  refine WE.region ?_
  refine WL.fin 1 kr kr ?_
  obtain rfl := Option.some.inj hr
  exact WE.ret ⟨[.bool true], ⟨⟨kr, kr⟩, trivial⟩, ⟨rfl, H⟩⟩
  }
  }
  }
  }
  {
  refine WE.no kr (b := ((gd x1 x0.Frame.Pc).Op) == 1) kr t30 ?_
  refine WE.region ?_
  refine WL.fin 2 kr kr ?_
  rcases ite_cases hr with ⟨t35, hr⟩ | ⟨t35, hr⟩
  {
  refine WE.yes kr (b := ((gd x1 x0.Frame.Pc).Op) == 2) kr t35 ?_
  refine WE.seq ?_
  refine WE.draws mo [0] (ρ' := [(0, .pointer (some ⟨b_0, 0, none⟩))]) kr fun w e1 e2 e3 e4 => ?_
  have H := H.same e1 e2 e3 e4
  clear e1 e2 e3 e4
  refine WD.know [0] kr ?_
  refine WD.know [1] kr ?_
  refine WD.know [2] kr ?_
  refine WD.know [3] kr ?_
  refine WD.told 4 56 (.int .i64 ((gd x1 x0.Frame.Pc).A)) kr kr ?_
  refine WD.know [5] kr ?_
  refine WD.know [6] kr ?_
  refine WD.know [7] kr ?_
  refine WD.know [8] kr ?_
  refine WD.told 9 61 (.slice a2 x0.Frame.Locals.length c2) kr kr ?_
  refine WD.know [10] kr ?_
  refine WD.know [11] kr ?_
  refine WD.does 12 kr rfl (Floats.of [11, 10, 8, 7, 6, 5, 3, 2, 1, 0] [9, 4] kr (Floats.pure _ kr kr) (.cons (.tells rfl kr rfl (.loadV H 0 rfl 3 kr kr)) (.cons (.tells rfl kr rfl (.loadV H 0 rfl 18 kr kr)) .nil))) kr kr (Does.reck kr ?_)
  refine WD.fin kr (Floats.of [] [] kr .nil .nil) kr kr ?_
  obtain rfl := Option.some.inj hr
  exact WE.ret ⟨[.bool (decide (((gd x1 x0.Frame.Pc).A) < (x0.Frame.Locals.length : Int)))], ⟨⟨kr, kr⟩, trivial⟩, ⟨rfl, H⟩⟩
  }
  {
  refine WE.no kr (b := ((gd x1 x0.Frame.Pc).Op) == 2) kr t35 ?_
  refine WE.seq ?_
  refine WE.region ?_
  refine WL.fin 2 kr kr ?_
  rcases ite_cases hr with ⟨t36, hr⟩ | ⟨t36, hr⟩
  {
  refine WE.yes kr (b := ((gd x1 x0.Frame.Pc).Op) == 14) kr t36 ?_
  refine WE.seq ?_
  refine WE.draws mo [0] (ρ' := [(0, .pointer (some ⟨b_0, 0, none⟩))]) kr fun w e1 e2 e3 e4 => ?_
  have H := H.same e1 e2 e3 e4
  clear e1 e2 e3 e4
  refine WD.know [0] kr ?_
  refine WD.know [1] kr ?_
  refine WD.know [2] kr ?_
  refine WD.know [3] kr ?_
  refine WD.told 4 70 (.int .i64 ((gd x1 x0.Frame.Pc).A)) kr kr ?_
  refine WD.know [5] kr ?_
  refine WD.know [6] kr ?_
  refine WD.know [7] kr ?_
  refine WD.know [8] kr ?_
  refine WD.told 9 75 (.slice a3 x0.Frame.Slots.length c3) kr kr ?_
  refine WD.know [10] kr ?_
  refine WD.know [11] kr ?_
  refine WD.does 12 kr rfl (Floats.of [11, 10, 8, 7, 6, 5, 3, 2, 1, 0] [9, 4] kr (Floats.pure _ kr kr) (.cons (.tells rfl kr rfl (.loadV H 0 rfl 4 kr kr)) (.cons (.tells rfl kr rfl (.loadV H 0 rfl 18 kr kr)) .nil))) kr kr (Does.reck kr ?_)
  refine WD.fin kr (Floats.of [] [] kr .nil .nil) kr kr ?_
  obtain rfl := Option.some.inj hr
  exact WE.ret ⟨[.bool (decide (((gd x1 x0.Frame.Pc).A) < (x0.Frame.Slots.length : Int)))], ⟨⟨kr, kr⟩, trivial⟩, ⟨rfl, H⟩⟩
  }
  {
  refine WE.no kr (b := ((gd x1 x0.Frame.Pc).Op) == 14) kr t36 ?_
  refine WE.seq ?_
  refine WE.region ?_
  refine WL.fin 2 kr kr ?_
  rcases ite_cases hr with ⟨t37, hr⟩ | ⟨t37, hr⟩
  {
  refine WE.yes kr (b := ((gd x1 x0.Frame.Pc).Op) == 13) kr t37 ?_
  refine WE.seq ?_
  refine WE.draws mo [0] (ρ' := [(0, .pointer (some ⟨b_0, 0, none⟩))]) kr fun w e1 e2 e3 e4 => ?_
  have H := H.same e1 e2 e3 e4
  clear e1 e2 e3 e4
  refine WD.know [0] kr ?_
  refine WD.know [1] kr ?_
  refine WD.know [2] kr ?_
  refine WD.know [3] kr ?_
  refine WD.told 4 84 (.int .i64 ((gd x1 x0.Frame.Pc).A)) kr kr ?_
  refine WD.know [5] kr ?_
  refine WD.know [6] kr ?_
  refine WD.know [7] kr ?_
  refine WD.told 8 88 (.slice a4 x0.p.length c4) kr kr ?_
  refine WD.know [9] kr ?_
  refine WD.know [10] kr ?_
  refine WD.know [11] kr ?_
  rcases ite_cases hr with ⟨t38, hr⟩ | ⟨t38, hr⟩
  {
  refine WD.known 91 t38 kr kr ?_
  refine WD.know [12] kr ?_
  refine WD.know [13] kr ?_
  refine WD.know [14] kr ?_
  refine WD.know [15] kr ?_
  refine WD.told 16 96 (.int .i64 ((gd x1 x0.Frame.Pc).B)) kr kr ?_
  refine WD.know [17] kr ?_
  refine WD.know [18] kr ?_
  refine WD.know [19] kr ?_
  refine WD.know [20] kr ?_
  refine WD.told 21 101 (.slice a3 x0.Frame.Slots.length c3) kr kr ?_
  refine WD.know [22] kr ?_
  refine WD.know [23] kr ?_
  refine WD.know [24] kr ?_
  refine WD.does 25 kr rfl (Floats.of [24, 23, 22, 20, 19, 18, 17, 15, 14, 13, 12, 10, 9, 7, 6, 5, 3, 2, 1, 0] [21, 16, 11, 8, 4] kr (Floats.pure _ kr kr) (.cons (.tells rfl kr rfl (.loadV H 0 rfl 4 kr kr)) (.cons (.tells rfl kr rfl (.loadV H 0 rfl 19 kr kr)) (.cons (.tells rfl kr kr (.calmB t38 kr)) (.cons (.tells rfl kr rfl (.loadV H 0 rfl 16 kr kr)) (.cons (.tells rfl kr rfl (.loadV H 0 rfl 18 kr kr)) .nil)))))) kr kr (Does.reck kr ?_)
  refine WD.fin kr (Floats.of [] [] kr .nil .nil) kr kr ?_
  obtain rfl := Option.some.inj hr
  exact WE.ret ⟨[.bool (decide (((gd x1 x0.Frame.Pc).B) < (x0.Frame.Slots.length : Int)))], ⟨⟨kr, kr⟩, trivial⟩, ⟨rfl, H⟩⟩
  }
  {
  refine WD.known 91 t38 kr kr ?_
  refine WD.know [12] kr ?_
  refine WD.know [13] kr ?_
  refine WD.know [14] kr ?_
  refine WD.know [15] kr ?_
  refine WD.know [16] kr ?_
  refine WD.know [17] kr ?_
  refine WD.know [18] kr ?_
  refine WD.know [19] kr ?_
  refine WD.know [20] kr ?_
  refine WD.know [21] kr ?_
  refine WD.know [22] kr ?_
  refine WD.know [23] kr ?_
  refine WD.know [24] kr ?_
  refine WD.does 25 kr rfl (Floats.of [24, 23, 22, 21, 20, 19, 18, 17, 16, 15, 14, 13, 12, 10, 9, 7, 6, 5, 3, 2, 1, 0] [11, 8, 4] kr (Floats.pure _ kr kr) (.cons (.tells rfl kr kr (.calmB t38 kr)) (.cons (.tells rfl kr rfl (.loadV H 0 rfl 16 kr kr)) (.cons (.tells rfl kr rfl (.loadV H 0 rfl 18 kr kr)) .nil)))) kr kr (Does.reck kr ?_)
  refine WD.fin kr (Floats.of [] [] kr .nil .nil) kr kr ?_
  obtain rfl := Option.some.inj hr
  exact WE.ret ⟨[.bool false], ⟨⟨kr, kr⟩, trivial⟩, ⟨rfl, H⟩⟩
  }
  }
  {
  refine WE.no kr (b := ((gd x1 x0.Frame.Pc).Op) == 13) kr t37 ?_
  refine WE.skip ?_
  refine WE.seq ?_
  refine WE.region ?_
  refine WL.fin 1 kr kr ?_
  obtain rfl := Option.some.inj hr
  exact WE.ret ⟨[.bool true], ⟨⟨kr, kr⟩, trivial⟩, ⟨rfl, H⟩⟩
  }
  }
  }
  }
  }
  }
  rcases ite_cases hy25 with ⟨ty25, hy25⟩ | ⟨ty25, hy25⟩
  {
  refine WL.known 21 ty25 kr kr ?_
  refine WL.sg 11 kr ?_
  obtain rfl := Option.some.inj hy25
  exact WL.live [0, 1, 32] kr (hk_y25 () _ H)
  }
  {
  refine WL.known 21 ty25 kr kr ?_
  refine WL.sg 5 kr ?_
  refine WL.does kr kr (Does.loadV H 0 rfl 1 kr kr ?_)
  obtain ⟨⟨g0_39, g1_39⟩, hy25⟩ := grd_cases hy25
  obtain ⟨b39, p39, C39, e39, fr39, cs39, rfl, hb39, hc39, rfl⟩ := f6.at g0_39 g1_39
  refine WL.does kr kr (Does.tells (.idx b39 (p39) x1.length c6 x0.Frame.Pc 3 kr kr g0_39 g1_39 kr) ?_)
  refine WL.does kr kr (Does.loadR H hb39 hc39 0 kr kr ?_)
  obtain ⟨y40, q40, hy25⟩ := bnd_cases hy25
  refine WL.does kr kr (Does.call (c_op_May (⟨(gd x1 x0.Frame.Pc).Op, (gd x1 x0.Frame.Pc).A, (gd x1 x0.Frame.Pc).B⟩ : GInstr) H q40) kr ?_)
  rintro _ w ⟨rfl, H⟩
  refine WL.sg 2 kr ?_
  obtain rfl := Option.some.inj hy25
  exact WL.live [0, 1, 32] kr (hk_y25 () _ H)
  }
  }
  rcases ite_cases hy24 with ⟨ty24, hy24⟩ | ⟨ty24, hy24⟩
  {
  refine WL.known 11 ty24 kr kr ?_
  refine WL.sg 9 kr ?_
  obtain rfl := hy24
  exact WL.live [0, 1, 20] kr (hk_y24 () _ H)
  }
  {
  refine WL.known 11 ty24 kr kr ?_
  refine WL.sg 4 kr ?_
  refine WL.does kr kr (Does.loadV H 0 rfl 1 kr kr ?_)
  refine WL.sg 4 kr ?_
  obtain rfl := hy24
  exact WL.live [0, 1, 20] kr (hk_y24 () _ H)
  }
def frame_runner_end (x0 : Grunner) (x1 : GOut) : Int × Int × Int × Int × Int × Int × Int × Int × (List GValue) :=
  (2, x1.Trap, x1.V.Re, x1.V.Im, 4, 0, 0, 0, [])
set_option maxRecDepth 100000 in
set_option maxHeartbeats 4000000 in
theorem c_frame_runner_end {w0 w : World} {h : Gh} {L : List Ent} (x0 : Grunner) {a1 : Option Addr} {c1 : Nat} {a2 : Option Addr} {c2 : Nat} {a3 : Option Addr} {c3 : Nat} {a4 : Option Addr} {c4 : Nat} {a5 : Option Addr} {c5 : Nat} (f4 : Sl rGFunc 48 h a4 c4 x0.p) (f5 : Sl rGValue 16 h a5 c5 x0.act.Args) {b_0 : Nat} (x1 : GOut) (H : St w0 h w (var b_0 (cGrunner x0 a1 c1 a2 c2 a3 c3 a4 c4 a5 c5) 73 :: row rGValue 16 h a1 c1 x0.Frame.Stack :: row rGValue 16 h a2 c2 x0.Frame.Locals :: row rGSlot 48 h a3 c3 x0.Frame.Slots :: L)) {r : Int × Int × Int × Int × Int × Int × Int × Int × (List GValue)} (hr : frame_runner_end x0 x1 = r) : Calls Try.prog 30 #[.pointer (some ⟨b_0, 0, none⟩), .agg #[.int .i64 x1.Trap, .int .i64 x1.V.Re, .int .i64 x1.V.Im]] w (fun e w' => ∃ v, e = .returned v ∧ ∃ (h' : Gh) (a901 : Option Addr) (c901 : Nat), v = .tuple #[] ∧ h.le h' ∧ Sl rGValue 16 h' a901 c901 r.2.2.2.2.2.2.2.2 ∧ St w0 h' w' (var b_0 (cGrunner ({ x0 with Frame := { x0.Frame with State := r.1, Out := (⟨r.2.1, (⟨r.2.2.1, r.2.2.2.1⟩ : GValue)⟩ : GOut) }, act := (⟨r.2.2.2.2.1, r.2.2.2.2.2.1, r.2.2.2.2.2.2.1, r.2.2.2.2.2.2.2.1, r.2.2.2.2.2.2.2.2⟩ : GAct) }) a1 c1 a2 c2 a3 c3 a4 c4 a901 c901) 73 :: row rGValue 16 h a1 c1 x0.Frame.Stack :: row rGValue 16 h a2 c2 x0.Frame.Locals :: row rGSlot 48 h a3 c3 x0.Frame.Slots :: L)) := by
  refine calls_of (args := [.pointer (some ⟨b_0, 0, none⟩), .agg #[.int .i64 x1.Trap, .int .i64 x1.V.Re, .int .i64 x1.V.Im]]) (n := 17) (rs := []) Try.func30 rfl rfl rfl rfl rfl ?_
  unfold frame_runner_end at hr
  refine WE.seq ?_
  refine WE.region ?_
  refine WL.does kr kr (Does.box H [.int .i64 x1.Trap, .int .i64 x1.V.Re, .int .i64 x1.V.Im] kr fun b7 w H => ?_)
  refine WL.fin 0 kr kr ?_
  refine WE.seq ?_
  refine WE.draws mo [0, 3] (ρ' := [(0, .pointer (some ⟨b_0, 0, none⟩)), (3, .pointer (some ⟨b7, 0, none⟩))]) kr fun w e1 e2 e3 e4 => ?_
  have H := H.same e1 e2 e3 e4
  clear e1 e2 e3 e4
  refine WD.know [0] kr ?_
  refine WD.know [1] kr ?_
  refine WD.told 2 6 (.agg #[.int .i64 x1.Trap, .int .i64 x1.V.Re, .int .i64 x1.V.Im]) kr kr ?_
  refine WD.know [3] kr ?_
  refine WD.know [4] kr ?_
  refine WD.know [5] kr ?_
  refine WD.does 6 kr rfl (Floats.of [5, 4, 3, 1, 0] [2] kr (Floats.pure _ kr kr) (.cons (.tells rfl kr rfl (.loadV H 0 rfl 0 kr kr)) .nil)) kr kr (Does.storeE H 1 (cGrunner ({ x0 with Frame := { x0.Frame with State := 2 } }) a1 c1 a2 c2 a3 c3 a4 c4 a5 c5) rfl (q := 8) kr kr kr fun w H => ?_)
  refine WD.know [7] kr ?_
  refine WD.know [8] kr ?_
  refine WD.know [9] kr ?_
  refine WD.does 10 kr rfl (Floats.of [9, 8, 7, 4, 3, 1] [2] kr (Floats.pure _ kr kr) (.cons (.tells rfl kr rfl (.loadV H 0 rfl 0 kr kr)) .nil)) kr kr (Does.storeE H 1 (cGrunner ({ x0 with Frame := { x0.Frame with State := 2, Out := x1 } }) a1 c1 a2 c2 a3 c3 a4 c4 a5 c5) rfl (q := 10) kr kr kr fun w H => ?_)
  refine WD.fin kr (Floats.of [8, 7] [] kr (Floats.pure _ kr kr) .nil) kr kr ?_
  refine WE.region ?_
  refine WL.sg 4 kr ?_
  refine WL.does kr kr (Does.storeE H 1 (cGrunner ({ x0 with Frame := { x0.Frame with State := 2, Out := x1 }, act := (⟨4, 0, 0, 0, []⟩ : GAct) }) a1 c1 a2 c2 a3 c3 a4 c4 none 0) rfl (q := 20) kr kr kr fun w H => ?_)
  refine WL.fin 0 kr kr ?_
  obtain rfl := hr
  exact ⟨[], trivial, ⟨h, none, 0, rfl, (Gh.refl _), (Sl.nil _ _ (Nat.zero_le _)), (H.keep 1)⟩⟩
def frame_runner_trap (x0 : Grunner) (x1 : Int) : Int × Int × Int × Int × Int × Int × Int × Int × (List GValue) :=
  bnd (frame_runner_end x0 (⟨x1, (⟨0, 0⟩ : GValue)⟩ : GOut)) fun y8 =>
  (y8.1, y8.2.1, y8.2.2.1, y8.2.2.2.1, y8.2.2.2.2.1, y8.2.2.2.2.2.1, y8.2.2.2.2.2.2.1, y8.2.2.2.2.2.2.2.1, y8.2.2.2.2.2.2.2.2)
set_option maxRecDepth 100000 in
set_option maxHeartbeats 4000000 in
theorem c_frame_runner_trap {w0 w : World} {h : Gh} {L : List Ent} (x0 : Grunner) {a1 : Option Addr} {c1 : Nat} {a2 : Option Addr} {c2 : Nat} {a3 : Option Addr} {c3 : Nat} {a4 : Option Addr} {c4 : Nat} {a5 : Option Addr} {c5 : Nat} (f4 : Sl rGFunc 48 h a4 c4 x0.p) (f5 : Sl rGValue 16 h a5 c5 x0.act.Args) {b_0 : Nat} (x1 : Int) (H : St w0 h w (var b_0 (cGrunner x0 a1 c1 a2 c2 a3 c3 a4 c4 a5 c5) 73 :: row rGValue 16 h a1 c1 x0.Frame.Stack :: row rGValue 16 h a2 c2 x0.Frame.Locals :: row rGSlot 48 h a3 c3 x0.Frame.Slots :: L)) {r : Int × Int × Int × Int × Int × Int × Int × Int × (List GValue)} (hr : frame_runner_trap x0 x1 = r) : Calls Try.prog 28 #[.pointer (some ⟨b_0, 0, none⟩), .int .i64 x1] w (fun e w' => ∃ v, e = .returned v ∧ ∃ (h' : Gh) (a901 : Option Addr) (c901 : Nat), v = .tuple #[] ∧ h.le h' ∧ Sl rGValue 16 h' a901 c901 r.2.2.2.2.2.2.2.2 ∧ St w0 h' w' (var b_0 (cGrunner ({ x0 with Frame := { x0.Frame with State := r.1, Out := (⟨r.2.1, (⟨r.2.2.1, r.2.2.2.1⟩ : GValue)⟩ : GOut) }, act := (⟨r.2.2.2.2.1, r.2.2.2.2.2.1, r.2.2.2.2.2.2.1, r.2.2.2.2.2.2.2.1, r.2.2.2.2.2.2.2.2⟩ : GAct) }) a1 c1 a2 c2 a3 c3 a4 c4 a901 c901) 73 :: row rGValue 16 h a1 c1 x0.Frame.Stack :: row rGValue 16 h a2 c2 x0.Frame.Locals :: row rGSlot 48 h a3 c3 x0.Frame.Slots :: L)) := by
  refine calls_of (args := [.pointer (some ⟨b_0, 0, none⟩), .int .i64 x1]) (n := 8) (rs := []) Try.func28 rfl rfl rfl rfl rfl ?_
  unfold frame_runner_trap at hr
  refine WE.region ?_
  obtain ⟨y8, q8, hr⟩ := bnd_cases hr
  refine WL.sg 3 kr ?_
  refine WL.does kr kr (Does.call (c_frame_runner_end x0 f4 f5 (⟨x1, (⟨0, 0⟩ : GValue)⟩ : GOut) H q8) kr ?_)
  rintro _ w ⟨h8, a9, c9, rfl, le8, f9, H⟩
  refine WL.fin 0 kr kr ?_
  obtain rfl := hr
  exact ⟨[], trivial, ⟨h8, a9, c9, rfl, le8, f9, H⟩⟩
def op_kinds : GA17_Gkind :=
  (⟨(⟨(⟨#[112, 117, 115, 104]⟩ : ByteArray), 2, 0, 1⟩ : Gkind), (⟨(⟨#[108, 111, 97, 100]⟩ : ByteArray), 1, 0, 1⟩ : Gkind), (⟨(⟨#[115, 116, 111, 114, 101]⟩ : ByteArray), 1, 1, 0⟩ : Gkind), (⟨(⟨#[97, 100, 100]⟩ : ByteArray), 0, 2, 1⟩ : Gkind), (⟨(⟨#[115, 117, 98]⟩ : ByteArray), 0, 2, 1⟩ : Gkind), (⟨(⟨#[109, 117, 108]⟩ : ByteArray), 0, 2, 1⟩ : Gkind), (⟨(⟨#[100, 105, 118]⟩ : ByteArray), 0, 2, 1⟩ : Gkind), (⟨(⟨#[99, 111, 110, 106]⟩ : ByteArray), 0, 1, 1⟩ : Gkind), (⟨(⟨#[100, 117, 112]⟩ : ByteArray), 0, 1, 2⟩ : Gkind), (⟨(⟨#[100, 114, 111, 112]⟩ : ByteArray), 0, 1, 0⟩ : Gkind), (⟨(⟨#[106, 117, 109, 112]⟩ : ByteArray), 1, 0, 0⟩ : Gkind), (⟨(⟨#[122, 101, 114, 111]⟩ : ByteArray), 1, 1, 0⟩ : Gkind), (⟨(⟨#[114, 97, 110, 100]⟩ : ByteArray), 0, 0, 1⟩ : Gkind), (⟨(⟨#[115, 112, 97, 119, 110]⟩ : ByteArray), 2, 0, 0⟩ : Gkind), (⟨(⟨#[106, 111, 105, 110]⟩ : ByteArray), 1, 0, 1⟩ : Gkind), (⟨(⟨#[114, 101, 116]⟩ : ByteArray), 0, 1, 0⟩ : Gkind), (⟨(⟨#[116, 114, 97, 112]⟩ : ByteArray), 1, 0, 0⟩ : Gkind)⟩ : GA17_Gkind)
set_option maxRecDepth 100000 in
set_option maxHeartbeats 4000000 in
theorem c_op_kinds {w0 w : World} {h : Gh} {L : List Ent} (H : St w0 h w L) {r : GA17_Gkind} (hr : op_kinds = r) : Calls Try.prog 88 #[] w (fun e w' => ∃ v, e = .returned v ∧ v = .agg (cGA17_Gkind r).toArray ∧ St w0 h w' (L)) := by
  refine calls_of (args := []) (n := 19) (rs := [.cell 0 136]) Try.func88 rfl rfl rfl rfl rfl ?_
  unfold op_kinds at hr
  refine WE.seq ?_
  refine WE.region ?_
  refine WL.does kr kr (Does.alloc H (cGA17_Gkind (⟨(⟨ByteArray.empty, 0, 0, 0⟩ : Gkind), (⟨ByteArray.empty, 0, 0, 0⟩ : Gkind), (⟨ByteArray.empty, 0, 0, 0⟩ : Gkind), (⟨ByteArray.empty, 0, 0, 0⟩ : Gkind), (⟨ByteArray.empty, 0, 0, 0⟩ : Gkind), (⟨ByteArray.empty, 0, 0, 0⟩ : Gkind), (⟨ByteArray.empty, 0, 0, 0⟩ : Gkind), (⟨ByteArray.empty, 0, 0, 0⟩ : Gkind), (⟨ByteArray.empty, 0, 0, 0⟩ : Gkind), (⟨ByteArray.empty, 0, 0, 0⟩ : Gkind), (⟨ByteArray.empty, 0, 0, 0⟩ : Gkind), (⟨ByteArray.empty, 0, 0, 0⟩ : Gkind), (⟨ByteArray.empty, 0, 0, 0⟩ : Gkind), (⟨ByteArray.empty, 0, 0, 0⟩ : Gkind), (⟨ByteArray.empty, 0, 0, 0⟩ : Gkind), (⟨ByteArray.empty, 0, 0, 0⟩ : Gkind), (⟨ByteArray.empty, 0, 0, 0⟩ : Gkind)⟩ : GA17_Gkind)) kr fun b1 w H => ?_)
  refine WL.fin 0 kr kr ?_
  refine WE.seq ?_
  refine WE.region ?_
  refine WL.sg 18 kr ?_
  refine WL.does kr kr (Does.storeE H 0 (cGA17_Gkind (⟨(⟨(⟨#[112, 117, 115, 104]⟩ : ByteArray), 2, 0, 1⟩ : Gkind), (⟨(⟨#[108, 111, 97, 100]⟩ : ByteArray), 1, 0, 1⟩ : Gkind), (⟨(⟨#[115, 116, 111, 114, 101]⟩ : ByteArray), 1, 1, 0⟩ : Gkind), (⟨(⟨#[97, 100, 100]⟩ : ByteArray), 0, 2, 1⟩ : Gkind), (⟨(⟨#[115, 117, 98]⟩ : ByteArray), 0, 2, 1⟩ : Gkind), (⟨(⟨#[109, 117, 108]⟩ : ByteArray), 0, 2, 1⟩ : Gkind), (⟨(⟨#[100, 105, 118]⟩ : ByteArray), 0, 2, 1⟩ : Gkind), (⟨(⟨#[99, 111, 110, 106]⟩ : ByteArray), 0, 1, 1⟩ : Gkind), (⟨(⟨#[100, 117, 112]⟩ : ByteArray), 0, 1, 2⟩ : Gkind), (⟨(⟨#[100, 114, 111, 112]⟩ : ByteArray), 0, 1, 0⟩ : Gkind), (⟨(⟨#[106, 117, 109, 112]⟩ : ByteArray), 1, 0, 0⟩ : Gkind), (⟨(⟨#[122, 101, 114, 111]⟩ : ByteArray), 1, 1, 0⟩ : Gkind), (⟨(⟨#[114, 97, 110, 100]⟩ : ByteArray), 0, 0, 1⟩ : Gkind), (⟨(⟨#[115, 112, 97, 119, 110]⟩ : ByteArray), 2, 0, 0⟩ : Gkind), (⟨(⟨#[106, 111, 105, 110]⟩ : ByteArray), 1, 0, 1⟩ : Gkind), (⟨(⟨#[114, 101, 116]⟩ : ByteArray), 0, 1, 0⟩ : Gkind), (⟨(⟨#[116, 114, 97, 112]⟩ : ByteArray), 1, 0, 0⟩ : Gkind)⟩ : GA17_Gkind)) rfl (q := 0) kr kr kr fun w H => ?_)
  refine WL.fin 0 kr kr ?_
  obtain rfl := hr
  exact WE.ret ⟨[.agg (cGA17_Gkind (⟨(⟨(⟨#[112, 117, 115, 104]⟩ : ByteArray), 2, 0, 1⟩ : Gkind), (⟨(⟨#[108, 111, 97, 100]⟩ : ByteArray), 1, 0, 1⟩ : Gkind), (⟨(⟨#[115, 116, 111, 114, 101]⟩ : ByteArray), 1, 1, 0⟩ : Gkind), (⟨(⟨#[97, 100, 100]⟩ : ByteArray), 0, 2, 1⟩ : Gkind), (⟨(⟨#[115, 117, 98]⟩ : ByteArray), 0, 2, 1⟩ : Gkind), (⟨(⟨#[109, 117, 108]⟩ : ByteArray), 0, 2, 1⟩ : Gkind), (⟨(⟨#[100, 105, 118]⟩ : ByteArray), 0, 2, 1⟩ : Gkind), (⟨(⟨#[99, 111, 110, 106]⟩ : ByteArray), 0, 1, 1⟩ : Gkind), (⟨(⟨#[100, 117, 112]⟩ : ByteArray), 0, 1, 2⟩ : Gkind), (⟨(⟨#[100, 114, 111, 112]⟩ : ByteArray), 0, 1, 0⟩ : Gkind), (⟨(⟨#[106, 117, 109, 112]⟩ : ByteArray), 1, 0, 0⟩ : Gkind), (⟨(⟨#[122, 101, 114, 111]⟩ : ByteArray), 1, 1, 0⟩ : Gkind), (⟨(⟨#[114, 97, 110, 100]⟩ : ByteArray), 0, 0, 1⟩ : Gkind), (⟨(⟨#[115, 112, 97, 119, 110]⟩ : ByteArray), 2, 0, 0⟩ : Gkind), (⟨(⟨#[106, 111, 105, 110]⟩ : ByteArray), 1, 0, 1⟩ : Gkind), (⟨(⟨#[114, 101, 116]⟩ : ByteArray), 0, 1, 0⟩ : Gkind), (⟨(⟨#[116, 114, 97, 112]⟩ : ByteArray), 1, 0, 0⟩ : Gkind)⟩ : GA17_Gkind)).toArray], ⟨⟨kr, ⟨b1, 0, none⟩, kr, H.loadVar 0 rfl 0 kr⟩, trivial⟩, ⟨rfl, (H.keep 1)⟩⟩
def op_of (x0 : Int) : Option Gkind :=
  bnd (
      if decide (x0 < 0) then
        true
      else
        decide (x0 ≥ 17)) fun y2 =>
  if y2 then
    some (⟨ByteArray.empty, 0, 0, 0⟩ : Gkind)
  else
    bnd op_kinds fun y4 =>
    if x0 == 0 then
      some y4.e0
    else
      if x0 == 1 then
        some y4.e1
      else
        if x0 == 2 then
          some y4.e2
        else
          if x0 == 3 then
            some y4.e3
          else
            if x0 == 4 then
              some y4.e4
            else
              if x0 == 5 then
                some y4.e5
              else
                if x0 == 6 then
                  some y4.e6
                else
                  if x0 == 7 then
                    some y4.e7
                  else
                    if x0 == 8 then
                      some y4.e8
                    else
                      if x0 == 9 then
                        some y4.e9
                      else
                        if x0 == 10 then
                          some y4.e10
                        else
                          if x0 == 11 then
                            some y4.e11
                          else
                            if x0 == 12 then
                              some y4.e12
                            else
                              if x0 == 13 then
                                some y4.e13
                              else
                                if x0 == 14 then
                                  some y4.e14
                                else
                                  if x0 == 15 then
                                    some y4.e15
                                  else
                                    if x0 = 16 then
                                      some y4.e16
                                    else none
set_option maxRecDepth 100000 in
set_option maxHeartbeats 4000000 in
theorem c_op_of {w0 w : World} {h : Gh} {L : List Ent} (x0 : Int) (H : St w0 h w L) {r : Gkind} (hr : op_of x0 = some r) : Calls Try.prog 78 #[.int .i64 x0] w (fun e w' => ∃ v, e = .returned v ∧ v = .agg (cGkind r).toArray ∧ St w0 h w' (L)) := by
  refine calls_of (args := [.int .i64 x0]) (n := 13) (rs := [.cell 2 125]) Try.func78 rfl rfl rfl rfl rfl ?_
  unfold op_of at hr
  refine WE.seq ?_
  refine WE.region ?_
  refine WL.does kr kr (Does.alloc H (cGkind (⟨ByteArray.empty, 0, 0, 0⟩ : Gkind)) kr fun b1 w H => ?_)
  refine WL.fin 0 kr kr ?_
  refine WE.seq ?_
  refine WE.seq ?_
  refine WE.region ?_
  refine WL.sg 3 kr ?_
  obtain ⟨y2, hy2, hr⟩ := bnd_cases hr
  refine WL.join 3 (fun (_ : Unit) => [(0, .int .i64 x0), (2, .pointer (some ⟨b1, 0, none⟩)), (8, .bool y2)]) (fun (_ : Unit) w => St w0 h w (var b1 (cGkind (⟨ByteArray.empty, 0, 0, 0⟩ : Gkind)) 125 :: L)) ?_ (fun hk_y2 => ?_)
  {
  rintro _ w H
  refine WL.fin 0 kr kr ?_
  rcases ite_cases hr with ⟨t3, hr⟩ | ⟨t3, hr⟩
  {
  refine WE.yes kr (b := y2) kr t3 ?_
  refine WE.seq ?_
  refine WE.region ?_
  refine WL.sg 1 kr ?_
  refine WL.does kr kr (Does.storeE H 0 (cGkind (⟨ByteArray.empty, 0, 0, 0⟩ : Gkind)) rfl (q := 0) kr kr kr fun w H => ?_)
  refine WL.fin 0 kr kr ?_
  obtain rfl := Option.some.inj hr
  exact WE.ret ⟨[.agg (cGkind (⟨ByteArray.empty, 0, 0, 0⟩ : Gkind)).toArray], ⟨⟨kr, ⟨b1, 0, none⟩, kr, H.loadVar 0 rfl 0 kr⟩, trivial⟩, ⟨rfl, (H.keep 1)⟩⟩
  }
  {
  refine WE.no kr (b := y2) kr t3 ?_
  refine WE.skip ?_
  refine WE.seq ?_
  refine WE.region ?_
  obtain ⟨y4, q4, hr⟩ := bnd_cases hr
  refine WL.does kr kr (Does.call (c_op_kinds H q4) kr ?_)
  rintro _ w ⟨rfl, H⟩
  rcases ite_cases hr with ⟨t5, hr⟩ | ⟨t5, hr⟩
  {
  refine WL.sg 1 kr ?_
  refine WL.does kr kr (Does.tells (.indexLit (i := 0) (v := .agg (cGkind y4.e0).toArray) kr (beq_int t5) kr) ?_)
  refine WL.does kr kr (Does.storeE H 0 (cGkind y4.e0) rfl (q := 0) kr kr kr fun w H => ?_)
  refine WL.fin 0 kr kr ?_
  obtain rfl := Option.some.inj hr
  exact WE.ret ⟨[.agg (cGkind y4.e0).toArray], ⟨⟨kr, ⟨b1, 0, none⟩, kr, H.loadVar 0 rfl 0 kr⟩, trivial⟩, ⟨rfl, (H.keep 1)⟩⟩
  }
  {
  rcases ite_cases hr with ⟨t6, hr⟩ | ⟨t6, hr⟩
  {
  refine WL.sg 1 kr ?_
  refine WL.does kr kr (Does.tells (.indexLit (i := 1) (v := .agg (cGkind y4.e1).toArray) kr (beq_int t6) kr) ?_)
  refine WL.does kr kr (Does.storeE H 0 (cGkind y4.e1) rfl (q := 0) kr kr kr fun w H => ?_)
  refine WL.fin 0 kr kr ?_
  obtain rfl := Option.some.inj hr
  exact WE.ret ⟨[.agg (cGkind y4.e1).toArray], ⟨⟨kr, ⟨b1, 0, none⟩, kr, H.loadVar 0 rfl 0 kr⟩, trivial⟩, ⟨rfl, (H.keep 1)⟩⟩
  }
  {
  rcases ite_cases hr with ⟨t7, hr⟩ | ⟨t7, hr⟩
  {
  refine WL.sg 1 kr ?_
  refine WL.does kr kr (Does.tells (.indexLit (i := 2) (v := .agg (cGkind y4.e2).toArray) kr (beq_int t7) kr) ?_)
  refine WL.does kr kr (Does.storeE H 0 (cGkind y4.e2) rfl (q := 0) kr kr kr fun w H => ?_)
  refine WL.fin 0 kr kr ?_
  obtain rfl := Option.some.inj hr
  exact WE.ret ⟨[.agg (cGkind y4.e2).toArray], ⟨⟨kr, ⟨b1, 0, none⟩, kr, H.loadVar 0 rfl 0 kr⟩, trivial⟩, ⟨rfl, (H.keep 1)⟩⟩
  }
  {
  rcases ite_cases hr with ⟨t8, hr⟩ | ⟨t8, hr⟩
  {
  refine WL.sg 1 kr ?_
  refine WL.does kr kr (Does.tells (.indexLit (i := 3) (v := .agg (cGkind y4.e3).toArray) kr (beq_int t8) kr) ?_)
  refine WL.does kr kr (Does.storeE H 0 (cGkind y4.e3) rfl (q := 0) kr kr kr fun w H => ?_)
  refine WL.fin 0 kr kr ?_
  obtain rfl := Option.some.inj hr
  exact WE.ret ⟨[.agg (cGkind y4.e3).toArray], ⟨⟨kr, ⟨b1, 0, none⟩, kr, H.loadVar 0 rfl 0 kr⟩, trivial⟩, ⟨rfl, (H.keep 1)⟩⟩
  }
  {
  rcases ite_cases hr with ⟨t9, hr⟩ | ⟨t9, hr⟩
  {
  refine WL.sg 1 kr ?_
  refine WL.does kr kr (Does.tells (.indexLit (i := 4) (v := .agg (cGkind y4.e4).toArray) kr (beq_int t9) kr) ?_)
  refine WL.does kr kr (Does.storeE H 0 (cGkind y4.e4) rfl (q := 0) kr kr kr fun w H => ?_)
  refine WL.fin 0 kr kr ?_
  obtain rfl := Option.some.inj hr
  exact WE.ret ⟨[.agg (cGkind y4.e4).toArray], ⟨⟨kr, ⟨b1, 0, none⟩, kr, H.loadVar 0 rfl 0 kr⟩, trivial⟩, ⟨rfl, (H.keep 1)⟩⟩
  }
  {
  rcases ite_cases hr with ⟨t10, hr⟩ | ⟨t10, hr⟩
  {
  refine WL.sg 1 kr ?_
  refine WL.does kr kr (Does.tells (.indexLit (i := 5) (v := .agg (cGkind y4.e5).toArray) kr (beq_int t10) kr) ?_)
  refine WL.does kr kr (Does.storeE H 0 (cGkind y4.e5) rfl (q := 0) kr kr kr fun w H => ?_)
  refine WL.fin 0 kr kr ?_
  obtain rfl := Option.some.inj hr
  exact WE.ret ⟨[.agg (cGkind y4.e5).toArray], ⟨⟨kr, ⟨b1, 0, none⟩, kr, H.loadVar 0 rfl 0 kr⟩, trivial⟩, ⟨rfl, (H.keep 1)⟩⟩
  }
  {
  rcases ite_cases hr with ⟨t11, hr⟩ | ⟨t11, hr⟩
  {
  refine WL.sg 1 kr ?_
  refine WL.does kr kr (Does.tells (.indexLit (i := 6) (v := .agg (cGkind y4.e6).toArray) kr (beq_int t11) kr) ?_)
  refine WL.does kr kr (Does.storeE H 0 (cGkind y4.e6) rfl (q := 0) kr kr kr fun w H => ?_)
  refine WL.fin 0 kr kr ?_
  obtain rfl := Option.some.inj hr
  exact WE.ret ⟨[.agg (cGkind y4.e6).toArray], ⟨⟨kr, ⟨b1, 0, none⟩, kr, H.loadVar 0 rfl 0 kr⟩, trivial⟩, ⟨rfl, (H.keep 1)⟩⟩
  }
  {
  rcases ite_cases hr with ⟨t12, hr⟩ | ⟨t12, hr⟩
  {
  refine WL.sg 1 kr ?_
  refine WL.does kr kr (Does.tells (.indexLit (i := 7) (v := .agg (cGkind y4.e7).toArray) kr (beq_int t12) kr) ?_)
  refine WL.does kr kr (Does.storeE H 0 (cGkind y4.e7) rfl (q := 0) kr kr kr fun w H => ?_)
  refine WL.fin 0 kr kr ?_
  obtain rfl := Option.some.inj hr
  exact WE.ret ⟨[.agg (cGkind y4.e7).toArray], ⟨⟨kr, ⟨b1, 0, none⟩, kr, H.loadVar 0 rfl 0 kr⟩, trivial⟩, ⟨rfl, (H.keep 1)⟩⟩
  }
  {
  rcases ite_cases hr with ⟨t13, hr⟩ | ⟨t13, hr⟩
  {
  refine WL.sg 1 kr ?_
  refine WL.does kr kr (Does.tells (.indexLit (i := 8) (v := .agg (cGkind y4.e8).toArray) kr (beq_int t13) kr) ?_)
  refine WL.does kr kr (Does.storeE H 0 (cGkind y4.e8) rfl (q := 0) kr kr kr fun w H => ?_)
  refine WL.fin 0 kr kr ?_
  obtain rfl := Option.some.inj hr
  exact WE.ret ⟨[.agg (cGkind y4.e8).toArray], ⟨⟨kr, ⟨b1, 0, none⟩, kr, H.loadVar 0 rfl 0 kr⟩, trivial⟩, ⟨rfl, (H.keep 1)⟩⟩
  }
  {
  rcases ite_cases hr with ⟨t14, hr⟩ | ⟨t14, hr⟩
  {
  refine WL.sg 1 kr ?_
  refine WL.does kr kr (Does.tells (.indexLit (i := 9) (v := .agg (cGkind y4.e9).toArray) kr (beq_int t14) kr) ?_)
  refine WL.does kr kr (Does.storeE H 0 (cGkind y4.e9) rfl (q := 0) kr kr kr fun w H => ?_)
  refine WL.fin 0 kr kr ?_
  obtain rfl := Option.some.inj hr
  exact WE.ret ⟨[.agg (cGkind y4.e9).toArray], ⟨⟨kr, ⟨b1, 0, none⟩, kr, H.loadVar 0 rfl 0 kr⟩, trivial⟩, ⟨rfl, (H.keep 1)⟩⟩
  }
  {
  rcases ite_cases hr with ⟨t15, hr⟩ | ⟨t15, hr⟩
  {
  refine WL.sg 1 kr ?_
  refine WL.does kr kr (Does.tells (.indexLit (i := 10) (v := .agg (cGkind y4.e10).toArray) kr (beq_int t15) kr) ?_)
  refine WL.does kr kr (Does.storeE H 0 (cGkind y4.e10) rfl (q := 0) kr kr kr fun w H => ?_)
  refine WL.fin 0 kr kr ?_
  obtain rfl := Option.some.inj hr
  exact WE.ret ⟨[.agg (cGkind y4.e10).toArray], ⟨⟨kr, ⟨b1, 0, none⟩, kr, H.loadVar 0 rfl 0 kr⟩, trivial⟩, ⟨rfl, (H.keep 1)⟩⟩
  }
  {
  rcases ite_cases hr with ⟨t16, hr⟩ | ⟨t16, hr⟩
  {
  refine WL.sg 1 kr ?_
  refine WL.does kr kr (Does.tells (.indexLit (i := 11) (v := .agg (cGkind y4.e11).toArray) kr (beq_int t16) kr) ?_)
  refine WL.does kr kr (Does.storeE H 0 (cGkind y4.e11) rfl (q := 0) kr kr kr fun w H => ?_)
  refine WL.fin 0 kr kr ?_
  obtain rfl := Option.some.inj hr
  exact WE.ret ⟨[.agg (cGkind y4.e11).toArray], ⟨⟨kr, ⟨b1, 0, none⟩, kr, H.loadVar 0 rfl 0 kr⟩, trivial⟩, ⟨rfl, (H.keep 1)⟩⟩
  }
  {
  rcases ite_cases hr with ⟨t17, hr⟩ | ⟨t17, hr⟩
  {
  refine WL.sg 1 kr ?_
  refine WL.does kr kr (Does.tells (.indexLit (i := 12) (v := .agg (cGkind y4.e12).toArray) kr (beq_int t17) kr) ?_)
  refine WL.does kr kr (Does.storeE H 0 (cGkind y4.e12) rfl (q := 0) kr kr kr fun w H => ?_)
  refine WL.fin 0 kr kr ?_
  obtain rfl := Option.some.inj hr
  exact WE.ret ⟨[.agg (cGkind y4.e12).toArray], ⟨⟨kr, ⟨b1, 0, none⟩, kr, H.loadVar 0 rfl 0 kr⟩, trivial⟩, ⟨rfl, (H.keep 1)⟩⟩
  }
  {
  rcases ite_cases hr with ⟨t18, hr⟩ | ⟨t18, hr⟩
  {
  refine WL.sg 1 kr ?_
  refine WL.does kr kr (Does.tells (.indexLit (i := 13) (v := .agg (cGkind y4.e13).toArray) kr (beq_int t18) kr) ?_)
  refine WL.does kr kr (Does.storeE H 0 (cGkind y4.e13) rfl (q := 0) kr kr kr fun w H => ?_)
  refine WL.fin 0 kr kr ?_
  obtain rfl := Option.some.inj hr
  exact WE.ret ⟨[.agg (cGkind y4.e13).toArray], ⟨⟨kr, ⟨b1, 0, none⟩, kr, H.loadVar 0 rfl 0 kr⟩, trivial⟩, ⟨rfl, (H.keep 1)⟩⟩
  }
  {
  rcases ite_cases hr with ⟨t19, hr⟩ | ⟨t19, hr⟩
  {
  refine WL.sg 1 kr ?_
  refine WL.does kr kr (Does.tells (.indexLit (i := 14) (v := .agg (cGkind y4.e14).toArray) kr (beq_int t19) kr) ?_)
  refine WL.does kr kr (Does.storeE H 0 (cGkind y4.e14) rfl (q := 0) kr kr kr fun w H => ?_)
  refine WL.fin 0 kr kr ?_
  obtain rfl := Option.some.inj hr
  exact WE.ret ⟨[.agg (cGkind y4.e14).toArray], ⟨⟨kr, ⟨b1, 0, none⟩, kr, H.loadVar 0 rfl 0 kr⟩, trivial⟩, ⟨rfl, (H.keep 1)⟩⟩
  }
  {
  rcases ite_cases hr with ⟨t20, hr⟩ | ⟨t20, hr⟩
  {
  refine WL.sg 1 kr ?_
  refine WL.does kr kr (Does.tells (.indexLit (i := 15) (v := .agg (cGkind y4.e15).toArray) kr (beq_int t20) kr) ?_)
  refine WL.does kr kr (Does.storeE H 0 (cGkind y4.e15) rfl (q := 0) kr kr kr fun w H => ?_)
  refine WL.fin 0 kr kr ?_
  obtain rfl := Option.some.inj hr
  exact WE.ret ⟨[.agg (cGkind y4.e15).toArray], ⟨⟨kr, ⟨b1, 0, none⟩, kr, H.loadVar 0 rfl 0 kr⟩, trivial⟩, ⟨rfl, (H.keep 1)⟩⟩
  }
  {
  obtain ⟨t21, hr⟩ := grd_cases hr
  refine WL.sg 1 kr ?_
  refine WL.does kr kr (Does.tells (.indexLit (i := 16) (v := .agg (cGkind y4.e16).toArray) kr t21 kr) ?_)
  refine WL.does kr kr (Does.storeE H 0 (cGkind y4.e16) rfl (q := 0) kr kr kr fun w H => ?_)
  refine WL.fin 0 kr kr ?_
  obtain rfl := Option.some.inj hr
  exact WE.ret ⟨[.agg (cGkind y4.e16).toArray], ⟨⟨kr, ⟨b1, 0, none⟩, kr, H.loadVar 0 rfl 0 kr⟩, trivial⟩, ⟨rfl, (H.keep 1)⟩⟩
  }
  }
  }
  }
  }
  }
  }
  }
  }
  }
  }
  }
  }
  }
  }
  }
  }
  }
  rcases ite_cases hy2 with ⟨ty2, hy2⟩ | ⟨ty2, hy2⟩
  {
  refine WL.known 5 ty2 kr kr ?_
  refine WL.sg 3 kr ?_
  obtain rfl := hy2
  exact WL.live [0, 2, 8] kr (hk_y2 () _ H)
  }
  {
  refine WL.known 5 ty2 kr kr ?_
  refine WL.sg 3 kr ?_
  obtain rfl := hy2
  exact WL.live [0, 2, 8] kr (hk_y2 () _ H)
  }
def op_Stack (x0 : Int) : Option (Int × Int) :=
  (op_of x0).bind fun y1 =>
  some (y1.off, y1.on)
set_option maxRecDepth 100000 in
set_option maxHeartbeats 4000000 in
theorem c_op_Stack {w0 w : World} {h : Gh} {L : List Ent} (x0 : Int) (H : St w0 h w L) {r : Int × Int} (hr : op_Stack x0 = some r) : Calls Try.prog 56 #[.int .i64 x0] w (fun e w' => ∃ v, e = .returned v ∧ v = .tuple #[.int .i64 r.1, .int .i64 r.2] ∧ St w0 h w' (L)) := by
  refine calls_of (args := [.int .i64 x0]) (n := 11) (rs := [.tmp 2, .tmp 3]) Try.func56 rfl rfl rfl rfl rfl ?_
  unfold op_Stack at hr
  refine WE.seq ?_
  refine WE.region ?_
  refine WL.fin 2 kr kr ?_
  refine WE.seq ?_
  refine WE.region ?_
  obtain ⟨y1, q1, hr⟩ := bind_cases hr
  refine WL.sg 1 kr ?_
  refine WL.does kr kr (Does.call (c_op_of x0 H q1) kr ?_)
  rintro _ w ⟨rfl, H⟩
  refine WL.does kr kr (Does.alloc H (cGkind (⟨ByteArray.empty, 0, 0, 0⟩ : Gkind)) kr fun b2 w H => ?_)
  refine WL.does kr kr (Does.storeE H 0 (cGkind y1) rfl (q := 0) kr kr kr fun w H => ?_)
  refine WL.fin 0 kr kr ?_
  refine WE.seq ?_
  refine WE.draws mo [4] (ρ' := [(4, .pointer (some ⟨b2, 0, none⟩))]) kr fun w e1 e2 e3 e4 => ?_
  have H := H.same e1 e2 e3 e4
  clear e1 e2 e3 e4
  refine WD.know [0] kr ?_
  refine WD.told 1 8 (.int .i64 y1.off) kr kr ?_
  refine WD.know [2] kr ?_
  refine WD.told 3 10 (.int .i64 y1.on) kr kr ?_
  refine WD.does 4 kr rfl (Floats.of [2, 0] [3, 1] kr (Floats.pure _ kr kr) (.cons (.tells rfl kr rfl (.loadV H 0 rfl 3 kr kr)) (.cons (.tells rfl kr rfl (.loadV H 0 rfl 2 kr kr)) .nil))) kr kr (Does.reck kr ?_)
  refine WD.does 5 kr rfl (Floats.of [2] [3] kr (Floats.pure _ kr kr) (.cons (.tells rfl kr rfl (.loadV H 0 rfl 3 kr kr)) .nil)) kr kr (Does.reck kr ?_)
  refine WD.fin kr (Floats.of [] [] kr .nil .nil) kr kr ?_
  obtain rfl := Option.some.inj hr
  exact WE.ret ⟨[.int .i64 y1.off, .int .i64 y1.on], ⟨⟨kr, kr⟩, ⟨kr, kr⟩, trivial⟩, ⟨rfl, (H.keep 1)⟩⟩
end Go.Proofs.Ytcoepljalekglaa.FrameSafe.W
