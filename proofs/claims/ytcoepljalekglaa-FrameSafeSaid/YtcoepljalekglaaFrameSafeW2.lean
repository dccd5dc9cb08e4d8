/- The walk of FrameSafe and of what it calls, part 2: printed by a program of this work. -/
import Derived.Test.YtcoepljalekglaaFrameSafeW1
set_option linter.unusedVariables false
set_option linter.unusedSimpArgs false
namespace Go.Proofs.Ytcoepljalekglaa.FrameSafe.W
open Go.Proofs.Ytcoepljalekglaa.G2 Go.Proofs
attribute [local irreducible] WE WL LP WD Does Tells
def frame_runner_off (x0 : Grunner) : Option Int :=
  if x0.x.Op == 13 then
    if 0 ≤ x0.x.A ∧ x0.x.A < x0.p.length then
      some ((gd x0.p x0.x.A).Arity)
    else none
  else
    (op_Stack x0.x.Op).bind fun y13 =>
    some y13.1
set_option maxRecDepth 100000 in
set_option maxHeartbeats 4000000 in
theorem c_frame_runner_off {w0 w : World} {h : Gh} {L : List Ent} (x0 : Grunner) {a1 : Option Addr} {c1 : Nat} {a2 : Option Addr} {c2 : Nat} {a3 : Option Addr} {c3 : Nat} {a4 : Option Addr} {c4 : Nat} {a5 : Option Addr} {c5 : Nat} (f4 : Sl rGFunc 48 h a4 c4 x0.p) (f5 : Sl rGValue 16 h a5 c5 x0.act.Args) {b_0 : Nat} (H : St w0 h w (var b_0 (cGrunner x0 a1 c1 a2 c2 a3 c3 a4 c4 a5 c5) 73 :: row rGValue 16 h a1 c1 x0.Frame.Stack :: row rGValue 16 h a2 c2 x0.Frame.Locals :: row rGSlot 48 h a3 c3 x0.Frame.Slots :: L)) {r : Int} (hr : frame_runner_off x0 = some r) : Calls Try.prog 57 #[.pointer (some ⟨b_0, 0, none⟩)] w (fun e w' => ∃ v, e = .returned v ∧ v = .int .i64 r ∧ St w0 h w' (var b_0 (cGrunner x0 a1 c1 a2 c2 a3 c3 a4 c4 a5 c5) 73 :: row rGValue 16 h a1 c1 x0.Frame.Stack :: row rGValue 16 h a2 c2 x0.Frame.Locals :: row rGSlot 48 h a3 c3 x0.Frame.Slots :: L)) := by
  refine calls_of (args := [.pointer (some ⟨b_0, 0, none⟩)]) (n := 33) (rs := [.tmp 2]) Try.func57 rfl rfl rfl rfl rfl ?_
  unfold frame_runner_off at hr
  refine WE.seq ?_
  refine WE.region ?_
  refine WL.fin 1 kr kr ?_
  refine WE.seq ?_
  refine WE.seq ?_
  refine WE.region ?_
  refine WL.sg 4 kr ?_
  refine WL.does kr kr (Does.loadV H 0 rfl 17 kr kr ?_)
  refine WL.fin 1 kr kr ?_
  rcases ite_cases hr with ⟨t10, hr⟩ | ⟨t10, hr⟩
  {
  refine WE.yes kr (b := x0.x.Op == 13) kr t10 ?_
  refine WE.seq ?_
  refine WE.draws mo [0] (ρ' := [(0, .pointer (some ⟨b_0, 0, none⟩))]) kr fun w e1 e2 e3 e4 => ?_
  have H := H.same e1 e2 e3 e4
  clear e1 e2 e3 e4
  refine WD.know [0] kr ?_
  refine WD.know [1] kr ?_
  refine WD.know [2] kr ?_
  refine WD.told 3 14 (.slice a4 x0.p.length c4) kr kr ?_
  refine WD.know [4] kr ?_
  refine WD.know [5] kr ?_
  refine WD.know [6] kr ?_
  refine WD.know [7] kr ?_
  refine WD.told 8 19 (.int .i64 x0.x.A) kr kr ?_
  obtain ⟨⟨g0_11, g1_11⟩, hr⟩ := grd_cases hr
  obtain ⟨b11, p11, C11, e11, fr11, cs11, rfl, hb11, hc11, ⟨a12, c12, rfl, f12⟩⟩ := f4.at g0_11 g1_11
  refine WD.told 9 20 (.pointer (some ⟨b11, p11 + x0.x.A.toNat * 4, none⟩)) kr kr ?_
  refine WD.know [10] kr ?_
  refine WD.told 11 22 (.int .i64 ((gd x0.p x0.x.A).Arity)) kr kr ?_
  refine WD.does 12 kr rfl (Floats.of [10, 7, 6, 5, 4, 2, 1, 0] [11, 9, 8, 3] kr (Floats.pure _ kr kr) (.cons (.tells rfl kr rfl (.loadR H hb11 hc11 0 kr kr)) (.cons (.tells rfl kr kr (.idx b11 (p11) x0.p.length c4 x0.x.A 4 kr kr g0_11 g1_11 kr)) (.cons (.tells rfl kr rfl (.loadV H 0 rfl 18 kr kr)) (.cons (.tells rfl kr rfl (.loadV H 0 rfl 16 kr kr)) .nil))))) kr kr (Does.reck kr ?_)
  refine WD.fin kr (Floats.of [] [] kr .nil .nil) kr kr ?_
  obtain rfl := Option.some.inj hr
  exact WE.ret ⟨[.int .i64 ((gd x0.p x0.x.A).Arity)], ⟨⟨kr, kr⟩, trivial⟩, ⟨rfl, H⟩⟩
  }
  {
  refine WE.no kr (b := x0.x.Op == 13) kr t10 ?_
  refine WE.skip ?_
  refine WE.seq ?_
  refine WE.region ?_
  refine WL.sg 4 kr ?_
  refine WL.does kr kr (Does.loadV H 0 rfl 17 kr kr ?_)
  obtain ⟨y13, q13, hr⟩ := bind_cases hr
  refine WL.does kr kr (Does.call (c_op_Stack x0.x.Op H q13) kr ?_)
  rintro _ w ⟨rfl, H⟩
  refine WL.fin 5 kr kr ?_
  refine WE.seq ?_
  refine WE.region ?_
  refine WL.fin 2 kr kr ?_
  obtain rfl := Option.some.inj hr
  exact WE.ret ⟨[.int .i64 y13.1], ⟨⟨kr, kr⟩, trivial⟩, ⟨rfl, H⟩⟩
  }
def frame_runner_room (x0 : Grunner) : Option Bool :=
  (op_Stack x0.x.Op).bind fun y12 =>
  (frame_runner_off x0).bind fun y13 =>
  bnd (
      if decide (y13 ≥ 0) then
        decide ((x0.Frame.Stack.length : Int) ≥ y13)
      else
        false) fun y14 =>
  bnd (
      if y14 then
        bnd (
            if y12.2 == 0 then
              true
            else
              decide ((w64 ((w64 ((x0.Frame.Stack.length : Int) - y13)) + y12.2)) ≤ 16)) fun y17 =>
        y17
      else
        false) fun y15 =>
  some y15
set_option maxRecDepth 100000 in
set_option maxHeartbeats 4000000 in
theorem c_frame_runner_room {w0 w : World} {h : Gh} {L : List Ent} (x0 : Grunner) {a1 : Option Addr} {c1 : Nat} {a2 : Option Addr} {c2 : Nat} {a3 : Option Addr} {c3 : Nat} {a4 : Option Addr} {c4 : Nat} {a5 : Option Addr} {c5 : Nat} (f4 : Sl rGFunc 48 h a4 c4 x0.p) (f5 : Sl rGValue 16 h a5 c5 x0.act.Args) {b_0 : Nat} (H : St w0 h w (var b_0 (cGrunner x0 a1 c1 a2 c2 a3 c3 a4 c4 a5 c5) 73 :: row rGValue 16 h a1 c1 x0.Frame.Stack :: row rGValue 16 h a2 c2 x0.Frame.Locals :: row rGSlot 48 h a3 c3 x0.Frame.Slots :: L)) {r : Bool} (hr : frame_runner_room x0 = some r) : Calls Try.prog 29 #[.pointer (some ⟨b_0, 0, none⟩)] w (fun e w' => ∃ v, e = .returned v ∧ v = .bool r ∧ St w0 h w' (var b_0 (cGrunner x0 a1 c1 a2 c2 a3 c3 a4 c4 a5 c5) 73 :: row rGValue 16 h a1 c1 x0.Frame.Stack :: row rGValue 16 h a2 c2 x0.Frame.Locals :: row rGSlot 48 h a3 c3 x0.Frame.Slots :: L)) := by
  refine calls_of (args := [.pointer (some ⟨b_0, 0, none⟩)]) (n := 46) (rs := [.tmp 2]) Try.func29 rfl rfl rfl rfl rfl ?_
  unfold frame_runner_room at hr
  refine WE.seq ?_
  refine WE.region ?_
  refine WL.fin 1 kr kr ?_
  refine WE.seq ?_
  refine WE.region ?_
  refine WL.sg 4 kr ?_
  refine WL.does kr kr (Does.loadV H 0 rfl 17 kr kr ?_)
  obtain ⟨y12, q12, hr⟩ := bind_cases hr
  refine WL.does kr kr (Does.call (c_op_Stack x0.x.Op H q12) kr ?_)
  rintro _ w ⟨rfl, H⟩
  refine WL.fin 5 kr kr ?_
  refine WE.seq ?_
  refine WE.region ?_
  obtain ⟨y13, q13, hr⟩ := bind_cases hr
  refine WL.sg 1 kr ?_
  refine WL.does kr kr (Does.call (c_frame_runner_off x0 f4 f5 H q13) kr ?_)
  rintro _ w ⟨rfl, H⟩
  refine WL.fin 1 kr kr ?_
  refine WE.seq ?_
  refine WE.region ?_
  refine WL.sg 3 kr ?_
  obtain ⟨y14, hy14, hr⟩ := bnd_cases hr
  refine WL.join 9 (fun (_ : Unit) => [(0, .pointer (some ⟨b_0, 0, none⟩)), (4, .int .i64 y12.2), (5, .int .i64 y13), (28, .bool y14)]) (fun (_ : Unit) w => St w0 h w (var b_0 (cGrunner x0 a1 c1 a2 c2 a3 c3 a4 c4 a5 c5) 73 :: row rGValue 16 h a1 c1 x0.Frame.Stack :: row rGValue 16 h a2 c2 x0.Frame.Locals :: row rGSlot 48 h a3 c3 x0.Frame.Slots :: L)) ?_ (fun hk_y14 => ?_)
  {
  rintro _ w H
  refine WL.sg 1 kr ?_
  obtain ⟨y15, hy15, hr⟩ := bnd_cases hr
  refine WL.join 16 (fun (_ : Unit) => [(45, .bool y15)]) (fun (_ : Unit) w => St w0 h w (var b_0 (cGrunner x0 a1 c1 a2 c2 a3 c3 a4 c4 a5 c5) 73 :: row rGValue 16 h a1 c1 x0.Frame.Stack :: row rGValue 16 h a2 c2 x0.Frame.Locals :: row rGSlot 48 h a3 c3 x0.Frame.Slots :: L)) ?_ (fun hk_y15 => ?_)
  {
  rintro _ w H
  refine WL.fin 1 kr kr ?_
  obtain rfl := Option.some.inj hr
  exact WE.ret ⟨[.bool y15], ⟨⟨kr, kr⟩, trivial⟩, ⟨rfl, H⟩⟩
  }
  rcases ite_cases hy15 with ⟨ty15, hy15⟩ | ⟨ty15, hy15⟩
  {
  refine WL.known 29 ty15 kr kr ?_
  refine WL.sg 3 kr ?_
  obtain ⟨y17, hy17, hy15⟩ := bnd_cases hy15
  refine WL.join 12 (fun (_ : Unit) => [(29, .bool true), (44, .bool y17)]) (fun (_ : Unit) w => St w0 h w (var b_0 (cGrunner x0 a1 c1 a2 c2 a3 c3 a4 c4 a5 c5) 73 :: row rGValue 16 h a1 c1 x0.Frame.Stack :: row rGValue 16 h a2 c2 x0.Frame.Locals :: row rGSlot 48 h a3 c3 x0.Frame.Slots :: L)) ?_ (fun hk_y17 => ?_)
  {
  rintro _ w H
  refine WL.sg 1 kr ?_
  obtain rfl := hy15
  exact WL.live [45] kr (hk_y15 () _ H)
  }
  rcases ite_cases hy17 with ⟨ty17, hy17⟩ | ⟨ty17, hy17⟩
  {
  refine WL.known 32 ty17 kr kr ?_
  refine WL.sg 12 kr ?_
  obtain rfl := hy17
  exact WL.live [29, 44] kr (hk_y17 () _ H)
  }
  {
  refine WL.known 32 ty17 kr kr ?_
  refine WL.sg 4 kr ?_
  refine WL.does kr kr (Does.loadV H 0 rfl 2 kr kr ?_)
  refine WL.sg 7 kr ?_
  obtain rfl := hy17
  exact WL.live [29, 44] kr (hk_y17 () _ H)
  }
  }
  {
  refine WL.known 29 ty15 kr kr ?_
  refine WL.sg 16 kr ?_
  obtain rfl := hy15
  exact WL.live [45] kr (hk_y15 () _ H)
  }
  }
  rcases ite_cases hy14 with ⟨ty14, hy14⟩ | ⟨ty14, hy14⟩
  {
  refine WL.known 19 ty14 kr kr ?_
  refine WL.sg 4 kr ?_
  refine WL.does kr kr (Does.loadV H 0 rfl 2 kr kr ?_)
  refine WL.sg 4 kr ?_
  obtain rfl := hy14
  exact WL.live [0, 4, 5, 28] kr (hk_y14 () _ H)
  }
  {
  refine WL.known 19 ty14 kr kr ?_
  refine WL.sg 9 kr ?_
  obtain rfl := hy14
  exact WL.live [0, 4, 5, 28] kr (hk_y14 () _ H)
  }
def frame_runner_pop (x0 : Grunner) (x1 : Int) : Option ((List GValue) × (List GValue)) :=
  if 0 ≤ (w64 ((x0.Frame.Stack.length : Int) - x1)) ∧ (w64 ((x0.Frame.Stack.length : Int) - x1)) ≤ (x0.Frame.Stack.length : Int) then
    (slices_Clone_Value (lcut x0.Frame.Stack (w64 ((x0.Frame.Stack.length : Int) - x1)) (x0.Frame.Stack.length : Int))).bind fun y14 =>
    if 0 ≤ (w64 ((x0.Frame.Stack.length : Int) - x1)) ∧ (w64 ((x0.Frame.Stack.length : Int) - x1)) ≤ (x0.Frame.Stack.length : Int) then
      some (y14, (x0.Frame.Stack.take (w64 ((x0.Frame.Stack.length : Int) - x1)).toNat))
    else none
  else none
set_option maxRecDepth 100000 in
set_option maxHeartbeats 4000000 in
theorem c_frame_runner_pop {w0 w : World} {h : Gh} {L : List Ent} (x0 : Grunner) {a1 : Option Addr} {c1 : Nat} {a2 : Option Addr} {c2 : Nat} {a3 : Option Addr} {c3 : Nat} {a4 : Option Addr} {c4 : Nat} {a5 : Option Addr} {c5 : Nat} (f4 : Sl rGFunc 48 h a4 c4 x0.p) (f5 : Sl rGValue 16 h a5 c5 x0.act.Args) {b_0 : Nat} (x1 : Int) (H : St w0 h w (var b_0 (cGrunner x0 a1 c1 a2 c2 a3 c3 a4 c4 a5 c5) 73 :: row rGValue 16 h a1 c1 x0.Frame.Stack :: row rGValue 16 h a2 c2 x0.Frame.Locals :: row rGSlot 48 h a3 c3 x0.Frame.Slots :: L)) {r : (List GValue) × (List GValue)} (hr : frame_runner_pop x0 x1 = some r) : Calls Try.prog 31 #[.pointer (some ⟨b_0, 0, none⟩), .int .i64 x1] w (fun e w' => ∃ v, e = .returned v ∧ ∃ (h' : Gh) (a901 : Option Addr) (c901 : Nat) (a903 : Option Addr) (c903 : Nat), v = .slice a901 r.1.length c901 ∧ h.le h' ∧ St w0 h' w' (var b_0 (cGrunner ({ x0 with Frame := { x0.Frame with Stack := r.2 } }) a903 c903 a2 c2 a3 c3 a4 c4 a5 c5) 73 :: row rGValue 16 h' a903 c903 r.2 :: row rGValue 16 h a2 c2 x0.Frame.Locals :: row rGSlot 48 h a3 c3 x0.Frame.Slots :: row rGValue 16 h' a901 c901 r.1 :: L)) := by
  refine calls_of (args := [.pointer (some ⟨b_0, 0, none⟩), .int .i64 x1]) (n := 35) (rs := [.tmp 4]) Try.func31 rfl rfl rfl rfl rfl ?_
  unfold frame_runner_pop at hr
  refine WE.seq ?_
  refine WE.region ?_
  refine WL.fin 1 kr kr ?_
  refine WE.seq ?_
  refine WE.region ?_
  refine WL.sg 4 kr ?_
  refine WL.does kr kr (Does.loadV H 0 rfl 2 kr kr ?_)
  refine WL.fin 4 kr kr ?_
  refine WE.seq ?_
  refine WE.region ?_
  refine WL.sg 4 kr ?_
  refine WL.does kr kr (Does.loadV H 0 rfl 2 kr kr ?_)
  obtain ⟨⟨g0_12, g1_12⟩, hr⟩ := grd_cases hr
  refine WL.sg 1 kr ?_
  refine WL.does kr kr (Does.tells (.cutR (a := a1) (c := c1) (xs := x0.Frame.Stack) (some (w64 ((x0.Frame.Stack.length : Int) - x1))) none 2 (w64 ((x0.Frame.Stack.length : Int) - x1)) (x0.Frame.Stack.length : Int) kr kr kr kr rfl rfl g0_12 g1_12 (Int.le_refl _) (H.rowLen 1 rfl).1) ?_)
  obtain ⟨y14, q14, hr⟩ := bind_cases hr
  have H := ((((H.front 3 rfl).front 3 rfl).front 2 rfl).front 3 rfl)
  obtain ⟨h13, le13, f13, H, bk13⟩ := (H).rowLend (Gh.refl _)
  refine WL.does kr kr (Does.call (c_slices_Clone_Value (lcut x0.Frame.Stack (w64 ((x0.Frame.Stack.length : Int) - x1)) (x0.Frame.Stack.length : Int)) (Sl.lcut f13 g0_12 g1_12 (Int.le_refl _)) H q14) kr ?_)
  rintro _ w ⟨h14, a15, c15, rfl, le14, H⟩
  obtain ⟨h13', le13', H⟩ := bk13 _ _ _ le14 H
  have H := H.rowFlat (h' := h13') 1 rfl (fun _ _ e => e)
  refine WL.fin 1 kr kr ?_
  refine WE.seq ?_
  refine WE.region ?_
  refine WL.sg 5 kr ?_
  refine WL.does kr kr (Does.loadV H 2 rfl 2 kr kr ?_)
  obtain ⟨⟨g1_17, g2_17⟩, hr⟩ := grd_cases hr
  refine WL.sg 1 kr ?_
  refine WL.does kr kr (Does.tells (.cutO H 0 rfl none (some (w64 ((x0.Frame.Stack.length : Int) - x1))) 2 (w64 ((x0.Frame.Stack.length : Int) - x1)) kr kr kr kr rfl rfl g1_17 g2_17 (Nat.le_refl _)) ?_)
  refine WL.sg 3 kr ?_
  refine WL.does kr kr (Does.storeE H 2 (cGrunner ({ x0 with Frame := { x0.Frame with Stack := (x0.Frame.Stack.take (w64 ((x0.Frame.Stack.length : Int) - x1)).toNat) } }) a1 c1 a2 c2 a3 c3 a4 c4 a5 c5) rfl (q := 2) kr kr kr fun w H => ?_)
  refine WL.fin 0 kr kr ?_
  refine WE.seq ?_
  refine WE.region ?_
  refine WL.fin 2 kr kr ?_
  have H := H.rowTake 0 rfl (w64 ((x0.Frame.Stack.length : Int) - x1)).toNat
  have H := H.rowUp 0 rfl le13'
  obtain rfl := Option.some.inj hr
  exact WE.ret ⟨[.slice a15 y14.length c15], ⟨⟨kr, kr⟩, trivial⟩, ⟨h13', a15, c15, a1, c1, rfl, le13', (((((H.front 1 rfl).front 4 rfl).front 4 rfl).front 3 rfl).front 4 rfl)⟩⟩
def seed_may (x0 : Int) : Bool :=
  bnd (
      if decide (x0 ≥ 0) then
        decide (x0 ≤ 4294967295)
      else
        false) fun y1 =>
  y1
set_option maxRecDepth 100000 in
set_option maxHeartbeats 4000000 in
theorem c_seed_may {w0 w : World} {h : Gh} {L : List Ent} (x0 : Int) (H : St w0 h w L) {r : Bool} (hr : seed_may x0 = r) : Calls Try.prog 90 #[.int .i64 x0] w (fun e w' => ∃ v, e = .returned v ∧ v = .bool r ∧ St w0 h w' (L)) := by
  refine calls_of (args := [.int .i64 x0]) (n := 9) (rs := [.tmp 2]) Try.func90 rfl rfl rfl rfl rfl ?_
  unfold seed_may at hr
  refine WE.seq ?_
  refine WE.region ?_
  refine WL.fin 1 kr kr ?_
  refine WE.seq ?_
  refine WE.region ?_
  refine WL.sg 3 kr ?_
  obtain ⟨y1, hy1, hr⟩ := bnd_cases hr
  refine WL.join 3 (fun (_ : Unit) => [(8, .bool y1)]) (fun (_ : Unit) w => St w0 h w (L)) ?_ (fun hk_y1 => ?_)
  {
  rintro _ w H
  refine WL.fin 1 kr kr ?_
  obtain rfl := hr
  exact WE.ret ⟨[.bool y1], ⟨⟨kr, kr⟩, trivial⟩, ⟨rfl, H⟩⟩
  }
  rcases ite_cases hy1 with ⟨ty1, hy1⟩ | ⟨ty1, hy1⟩
  {
  refine WL.known 5 ty1 kr kr ?_
  refine WL.sg 3 kr ?_
  obtain rfl := hy1
  exact WL.live [8] kr (hk_y1 () _ H)
  }
  {
  refine WL.known 5 ty1 kr kr ?_
  refine WL.sg 3 kr ?_
  obtain rfl := hy1
  exact WL.live [8] kr (hk_y1 () _ H)
  }
def seed_Mix_l1 (K : Nat) : Nat → (Int × Int) → Option Int
  | 0, _ => none
  | k1 + 1, (y9, y10) =>
    if decide (y9 < 2) then
      seed_Mix_l1 K k1 (w64 (y9 + 1), IntKind.wrap .u32 ((ixor .u32 y10 (ishr .u32 y10 15)) * 2246822507))
    else
      some (w64 (ixor .u32 y10 (ishr .u32 y10 13)))
def seed_Mix (K : Nat) (x0 : Int) (x1 : Int) : Option Int :=
  bnd (seed_may x0) fun y1 =>
  bnd (
      if !y1 then
        true
      else
        bnd (seed_may x1) fun y12 =>
        !y12) fun y2 =>
  if y2 then
    some 0
  else
    seed_Mix_l1 K K (0, ixor .u32 (IntKind.wrap .u32 x0) (IntKind.wrap .u32 ((IntKind.wrap .u32 ((IntKind.wrap .u32 x1) + 1)) * 2654435761)))
set_option maxRecDepth 100000 in
set_option maxHeartbeats 4000000 in
theorem c_seed_Mix {w0 w : World} {h : Gh} {L : List Ent} (K : Nat) (x0 : Int) (x1 : Int) (H : St w0 h w L) {r : Int} (hr : seed_Mix K x0 x1 = some r) : Calls Try.prog 89 #[.int .i64 x0, .int .i64 x1] w (fun e w' => ∃ v, e = .returned v ∧ v = .int .i64 r ∧ St w0 h w' (L)) := by
  refine calls_of (args := [.int .i64 x0, .int .i64 x1]) (n := 34) (rs := [.tmp 4]) Try.func89 rfl rfl rfl rfl rfl ?_
  unfold seed_Mix at hr
  refine WE.seq ?_
  refine WE.region ?_
  refine WL.fin 1 kr kr ?_
  refine WE.seq ?_
  refine WE.seq ?_
  refine WE.region ?_
  obtain ⟨y1, q1, hr⟩ := bnd_cases hr
  refine WL.sg 1 kr ?_
  refine WL.does kr kr (Does.call (c_seed_may x0 H q1) kr ?_)
  rintro _ w ⟨rfl, H⟩
  refine WL.sg 2 kr ?_
  obtain ⟨y2, hy2, hr⟩ := bnd_cases hr
  refine WL.join 4 (fun (_ : Unit) => [(0, .int .i64 x0), (1, .int .i64 x1), (13, .bool y2)]) (fun (_ : Unit) w => St w0 h w (L)) ?_ (fun hk_y2 => ?_)
  {
  rintro _ w H
  refine WL.fin 0 kr kr ?_
  rcases ite_cases hr with ⟨t4, hr⟩ | ⟨t4, hr⟩
  {
  refine WE.yes kr (b := y2) kr t4 ?_
  refine WE.seq ?_
  refine WE.region ?_
  refine WL.fin 1 kr kr ?_
  obtain rfl := Option.some.inj hr
  exact WE.ret ⟨[.int .i64 0], ⟨⟨kr, kr⟩, trivial⟩, ⟨rfl, H⟩⟩
  }
  {
  refine WE.no kr (b := y2) kr t4 ?_
  refine WE.skip ?_
  refine WE.seq ?_
  refine WE.region ?_
  refine WL.fin 8 kr kr ?_
  refine WE.seq ?_
  refine WE.seq ?_
  refine WE.region ?_
  refine WL.fin 1 kr kr ?_
  refine WE.block ?_
  refine WE.loop (LP.live [5, 21] kr (LP.rec (seed_Mix_l1 K) (fun (⟨y9, y10⟩ : Int × Int) (_ : Unit) => [(5, .int .u32 y10), (21, .int .i64 y9)]) (fun (⟨y9, y10⟩ : Int × Int) (_ : Unit) => fun w => St w0 h w (L)) r (fun _ => rfl) ?_ K (0, ixor .u32 (IntKind.wrap .u32 x0) (IntKind.wrap .u32 ((IntKind.wrap .u32 ((IntKind.wrap .u32 x1) + 1)) * 2654435761))) () _ H hr))
  rintro k1 ih1 ⟨y9, y10⟩ _ w H hr
  simp only [seed_Mix_l1] at hr
  refine WE.seq ?_
  refine WE.region ?_
  refine WL.fin 1 kr kr ?_
  refine WE.seq ?_
  rcases ite_cases hr with ⟨t11, hr⟩ | ⟨t11, hr⟩
  {
  refine WE.yes kr (b := decide (y9 < 2)) kr t11 ?_
  refine WE.skip ?_
  refine WE.seq ?_
  refine WE.block ?_
  refine WE.region ?_
  refine WL.fin 6 kr kr ?_
  refine WE.region ?_
  refine WL.fin 2 kr kr ?_
  exact LP.live [5, 21] kr (ih1 (w64 (y9 + 1), IntKind.wrap .u32 ((ixor .u32 y10 (ishr .u32 y10 15)) * 2246822507)) () _ H hr)
  }
  {
  refine WE.no kr (b := decide (y9 < 2)) kr t11 ?_
  refine WE.exit ?_
  refine WE.seq ?_
  refine WE.region ?_
  refine WL.fin 6 kr kr ?_
  obtain rfl := Option.some.inj hr
  exact WE.ret ⟨[.int .i64 (w64 (ixor .u32 y10 (ishr .u32 y10 13)))], ⟨⟨kr, kr⟩, trivial⟩, ⟨rfl, H⟩⟩
  }
  }
  }
  rcases ite_cases hy2 with ⟨ty2, hy2⟩ | ⟨ty2, hy2⟩
  {
  refine WL.known 9 ty2 kr kr ?_
  refine WL.sg 4 kr ?_
  obtain rfl := hy2
  exact WL.live [0, 1, 13] kr (hk_y2 () _ H)
  }
  {
  refine WL.known 9 ty2 kr kr ?_
  obtain ⟨y12, q12, hy2⟩ := bnd_cases hy2
  refine WL.sg 1 kr ?_
  refine WL.does kr kr (Does.call (c_seed_may x1 H q12) kr ?_)
  rintro _ w ⟨rfl, H⟩
  refine WL.sg 2 kr ?_
  obtain rfl := hy2
  exact WL.live [0, 1, 13] kr (hk_y2 () _ H)
  }
def seed_of (K : Nat) (x0 : Int) (x1 : Int) (x2 : Int) : Option (Int × Bool) :=
  (seed_Mix K x0 x1).bind fun y1 =>
  (seed_Mix K y1 x2).bind fun y2 =>
  bnd (seed_may x0) fun y3 =>
  bnd (
      if y3 then
        bnd (seed_may x2) fun y6 =>
        y6
      else
        false) fun y4 =>
  some (y2, y4)
set_option maxRecDepth 100000 in
set_option maxHeartbeats 4000000 in
theorem c_seed_of {w0 w : World} {h : Gh} {L : List Ent} (K : Nat) (x0 : Int) (x1 : Int) (x2 : Int) (H : St w0 h w L) {r : Int × Bool} (hr : seed_of K x0 x1 x2 = some r) : Calls Try.prog 79 #[.int .i64 x0, .int .i64 x1, .int .i64 x2] w (fun e w' => ∃ v, e = .returned v ∧ v = .tuple #[.int .i64 r.1, .bool r.2] ∧ St w0 h w' (L)) := by
  refine calls_of (args := [.int .i64 x0, .int .i64 x1, .int .i64 x2]) (n := 19) (rs := [.tmp 6, .tmp 7]) Try.func79 rfl rfl rfl rfl rfl ?_
  unfold seed_of at hr
  refine WE.seq ?_
  refine WE.region ?_
  refine WL.fin 2 kr kr ?_
  refine WE.seq ?_
  refine WE.region ?_
  obtain ⟨y1, q1, hr⟩ := bind_cases hr
  refine WL.sg 2 kr ?_
  refine WL.does kr kr (Does.call (c_seed_Mix K x0 x1 H q1) kr ?_)
  rintro _ w ⟨rfl, H⟩
  obtain ⟨y2, q2, hr⟩ := bind_cases hr
  refine WL.sg 1 kr ?_
  refine WL.does kr kr (Does.call (c_seed_Mix K y1 x2 H q2) kr ?_)
  rintro _ w ⟨rfl, H⟩
  obtain ⟨y3, q3, hr⟩ := bnd_cases hr
  refine WL.sg 1 kr ?_
  refine WL.does kr kr (Does.call (c_seed_may x0 H q3) kr ?_)
  rintro _ w ⟨rfl, H⟩
  refine WL.sg 1 kr ?_
  obtain ⟨y4, hy4, hr⟩ := bnd_cases hr
  refine WL.join 3 (fun (_ : Unit) => [(12, .int .i64 y2), (18, .bool y4)]) (fun (_ : Unit) w => St w0 h w (L)) ?_ (fun hk_y4 => ?_)
  {
  rintro _ w H
  refine WL.fin 2 kr kr ?_
  obtain rfl := Option.some.inj hr
  exact WE.ret ⟨[.int .i64 y2, .bool y4], ⟨⟨kr, kr⟩, ⟨kr, kr⟩, trivial⟩, ⟨rfl, H⟩⟩
  }
  rcases ite_cases hy4 with ⟨ty4, hy4⟩ | ⟨ty4, hy4⟩
  {
  refine WL.known 15 ty4 kr kr ?_
  obtain ⟨y6, q6, hy4⟩ := bnd_cases hy4
  refine WL.sg 1 kr ?_
  refine WL.does kr kr (Does.call (c_seed_may x2 H q6) kr ?_)
  rintro _ w ⟨rfl, H⟩
  refine WL.sg 1 kr ?_
  obtain rfl := hy4
  exact WL.live [12, 18] kr (hk_y4 () _ H)
  }
  {
  refine WL.known 15 ty4 kr kr ?_
  refine WL.sg 3 kr ?_
  obtain rfl := hy4
  exact WL.live [12, 18] kr (hk_y4 () _ H)
  }
def seed_Child (K : Nat) (x0 : Int) (x1 : Int) : Option Int :=
  (seed_of K x0 1 x1).bind fun y1 =>
  if !y1.2 then
    some 0
  else
    some y1.1
set_option maxRecDepth 100000 in
set_option maxHeartbeats 4000000 in
theorem c_seed_Child {w0 w : World} {h : Gh} {L : List Ent} (K : Nat) (x0 : Int) (x1 : Int) (H : St w0 h w L) {r : Int} (hr : seed_Child K x0 x1 = some r) : Calls Try.prog 58 #[.int .i64 x0, .int .i64 x1] w (fun e w' => ∃ v, e = .returned v ∧ v = .int .i64 r ∧ St w0 h w' (L)) := by
  refine calls_of (args := [.int .i64 x0, .int .i64 x1]) (n := 16) (rs := [.tmp 4]) Try.func58 rfl rfl rfl rfl rfl ?_
  unfold seed_Child at hr
  refine WE.seq ?_
  refine WE.region ?_
  refine WL.fin 1 kr kr ?_
  refine WE.seq ?_
  refine WE.region ?_
  obtain ⟨y1, q1, hr⟩ := bind_cases hr
  refine WL.sg 2 kr ?_
  refine WL.does kr kr (Does.call (c_seed_of K x0 1 x1 H q1) kr ?_)
  rintro _ w ⟨rfl, H⟩
  refine WL.fin 5 kr kr ?_
  refine WE.seq ?_
  refine WE.seq ?_
  refine WE.region ?_
  refine WL.fin 2 kr kr ?_
  rcases ite_cases hr with ⟨t2, hr⟩ | ⟨t2, hr⟩
  {
  refine WE.yes kr (b := !y1.2) kr t2 ?_
  refine WE.seq ?_
  refine WE.region ?_
  refine WL.fin 1 kr kr ?_
  obtain rfl := Option.some.inj hr
  exact WE.ret ⟨[.int .i64 0], ⟨⟨kr, kr⟩, trivial⟩, ⟨rfl, H⟩⟩
  }
  {
  refine WE.no kr (b := !y1.2) kr t2 ?_
  refine WE.skip ?_
  refine WE.seq ?_
  refine WE.region ?_
  refine WL.fin 2 kr kr ?_
  obtain rfl := Option.some.inj hr
  exact WE.ret ⟨[.int .i64 y1.1], ⟨⟨kr, kr⟩, trivial⟩, ⟨rfl, H⟩⟩
  }
def frame_runner_spawn (K : Nat) (x0 : Grunner) : Option (Int × (List GValue) × (List GSlot) × Int × Int × Int × Int × Int × Int × Int × Int × Int × (List GValue)) :=
  if 0 ≤ x0.x.B ∧ x0.x.B < x0.Frame.Slots.length then
    if ((gd x0.Frame.Slots x0.x.B).State) != 0 then
      bnd (frame_runner_trap x0 2) fun y21 =>
      some (x0.Frame.Pc, x0.Frame.Stack, x0.Frame.Slots, x0.Frame.Spawned, y21.1, y21.2.1, y21.2.2.1, y21.2.2.2.1, y21.2.2.2.2.1, y21.2.2.2.2.2.1, y21.2.2.2.2.2.2.1, y21.2.2.2.2.2.2.2.1, y21.2.2.2.2.2.2.2.2)
    else
      bnd frame_noRef fun y23 =>
      (seed_Child K x0.Frame.Seed x0.Frame.Spawned).bind fun y25 =>
      (frame_runner_off ({ x0 with Frame := { x0.Frame with Slots := (x0.Frame.Slots.set x0.x.B.toNat (⟨1, y23, (⟨0, (⟨0, 0⟩ : GValue)⟩ : GOut)⟩ : GSlot)) } })).bind fun y26 =>
      (frame_runner_pop ({ x0 with Frame := { x0.Frame with Slots := (x0.Frame.Slots.set x0.x.B.toNat (⟨1, y23, (⟨0, (⟨0, 0⟩ : GValue)⟩ : GOut)⟩ : GSlot)) } }) y26).bind fun y27 =>
      some (w64 (x0.Frame.Pc + 1), y27.2, (x0.Frame.Slots.set x0.x.B.toNat (⟨1, y23, (⟨0, (⟨0, 0⟩ : GValue)⟩ : GOut)⟩ : GSlot)), w64 (x0.Frame.Spawned + 1), x0.Frame.State, x0.Frame.Out.Trap, x0.Frame.Out.V.Re, x0.Frame.Out.V.Im, 2, x0.x.A, x0.x.B, y25, y27.1)
  else none
set_option maxRecDepth 100000 in
set_option maxHeartbeats 4000000 in
theorem c_frame_runner_spawn {w0 w : World} {h : Gh} {L : List Ent} (K : Nat) (x0 : Grunner) {a1 : Option Addr} {c1 : Nat} {a2 : Option Addr} {c2 : Nat} {a3 : Option Addr} {c3 : Nat} {a4 : Option Addr} {c4 : Nat} {a5 : Option Addr} {c5 : Nat} (f4 : Sl rGFunc 48 h a4 c4 x0.p) (f5 : Sl rGValue 16 h a5 c5 x0.act.Args) {b_0 : Nat} (H : St w0 h w (var b_0 (cGrunner x0 a1 c1 a2 c2 a3 c3 a4 c4 a5 c5) 73 :: row rGValue 16 h a1 c1 x0.Frame.Stack :: row rGValue 16 h a2 c2 x0.Frame.Locals :: row rGSlot 48 h a3 c3 x0.Frame.Slots :: L)) {r : Int × (List GValue) × (List GSlot) × Int × Int × Int × Int × Int × Int × Int × Int × Int × (List GValue)} (hr : frame_runner_spawn K x0 = some r) : Calls Try.prog 32 #[.pointer (some ⟨b_0, 0, none⟩)] w (fun e w' => ∃ v, e = .returned v ∧ ∃ (h' : Gh) (a901 : Option Addr) (c901 : Nat) (a903 : Option Addr) (c903 : Nat) (a905 : Option Addr) (c905 : Nat), v = .tuple #[] ∧ h.le h' ∧ Sl rGValue 16 h' a905 c905 r.2.2.2.2.2.2.2.2.2.2.2.2 ∧ St w0 h' w' (var b_0 (cGrunner ({ x0 with Frame := { x0.Frame with Pc := r.1, Stack := r.2.1, Slots := r.2.2.1, Spawned := r.2.2.2.1, State := r.2.2.2.2.1, Out := (⟨r.2.2.2.2.2.1, (⟨r.2.2.2.2.2.2.1, r.2.2.2.2.2.2.2.1⟩ : GValue)⟩ : GOut) }, act := (⟨r.2.2.2.2.2.2.2.2.1, r.2.2.2.2.2.2.2.2.2.1, r.2.2.2.2.2.2.2.2.2.2.1, r.2.2.2.2.2.2.2.2.2.2.2.1, r.2.2.2.2.2.2.2.2.2.2.2.2⟩ : GAct) }) a901 c901 a2 c2 a903 c903 a4 c4 a905 c905) 73 :: row rGValue 16 h' a901 c901 r.2.1 :: row rGValue 16 h a2 c2 x0.Frame.Locals :: row rGSlot 48 h' a903 c903 r.2.2.1 :: L)) := by
  refine calls_of (args := [.pointer (some ⟨b_0, 0, none⟩)]) (n := 72) (rs := []) Try.func32 rfl rfl rfl rfl rfl ?_
  unfold frame_runner_spawn at hr
  refine WE.seq ?_
  refine WE.draws mo [0] (ρ' := [(0, .pointer (some ⟨b_0, 0, none⟩))]) kr fun w e1 e2 e3 e4 => ?_
  have H := H.same e1 e2 e3 e4
  clear e1 e2 e3 e4
  refine WD.know [0] kr ?_
  refine WD.know [1] kr ?_
  refine WD.know [2] kr ?_
  refine WD.know [3] kr ?_
  refine WD.told 4 7 (.slice a3 x0.Frame.Slots.length c3) kr kr ?_
  refine WD.know [5] kr ?_
  refine WD.know [6] kr ?_
  refine WD.know [7] kr ?_
  refine WD.know [8] kr ?_
  refine WD.told 9 12 (.int .i64 x0.x.B) kr kr ?_
  obtain ⟨⟨g0_19, g1_19⟩, hr⟩ := grd_cases hr
  obtain ⟨b19, p19, rfl⟩ := H.rowSome 3 rfl g0_19 g1_19
  refine WD.told 10 13 (.pointer (some ⟨b19, p19 + x0.x.B.toNat * 6, none⟩)) kr kr ?_
  refine WD.does 11 kr rfl (Floats.of [8, 7, 6, 5, 3, 2, 1, 0] [10, 9, 4] kr (Floats.pure _ kr kr) (.cons (.tells rfl kr kr (.idx b19 (p19) x0.Frame.Slots.length c3 x0.x.B 6 kr kr g0_19 g1_19 kr)) (.cons (.tells rfl kr rfl (.loadV H 0 rfl 19 kr kr)) (.cons (.tells rfl kr rfl (.loadV H 0 rfl 4 kr kr)) .nil)))) kr kr (Does.reck kr ?_)
  refine WD.fin kr (Floats.of [] [] kr .nil .nil) kr kr ?_
  refine WE.seq ?_
  refine WE.seq ?_
  refine WE.region ?_
  refine WL.sg 3 kr ?_
  refine WL.does kr kr (Does.tells (.loadRow (v := .int .i64 ((gd x0.Frame.Slots x0.x.B).State)) H 3 rfl g0_19 g1_19 0 6 rfl (fun _ e => by rcases e with rfl; kernel_rfl) kr) ?_)
  refine WL.fin 1 kr kr ?_
  rcases ite_cases hr with ⟨t20, hr⟩ | ⟨t20, hr⟩
  {
  refine WE.yes kr (b := ((gd x0.Frame.Slots x0.x.B).State) != 0) kr t20 ?_
  refine WE.seq ?_
  refine WE.region ?_
  obtain ⟨y21, q21, hr⟩ := bnd_cases hr
  refine WL.sg 1 kr ?_
  refine WL.does kr kr (Does.call (c_frame_runner_trap x0 f4 f5 2 H q21) kr ?_)
  rintro _ w ⟨h21, a22, c22, rfl, le21, f22, H⟩
  refine WL.fin 0 kr kr ?_
  have H := H.rowUp 1 rfl le21
  have H := H.rowUp 3 rfl le21
  obtain rfl := Option.some.inj hr
  exact WE.ret ⟨[], trivial, ⟨h21, a1, c1, (some ⟨b19, p19, none⟩), c3, a22, c22, rfl, le21, f22, H⟩⟩
  }
  {
  refine WE.no kr (b := ((gd x0.Frame.Slots x0.x.B).State) != 0) kr t20 ?_
  refine WE.skip ?_
  refine WE.seq ?_
  refine WE.region ?_
  obtain ⟨y23, q23, hr⟩ := bnd_cases hr
  refine WL.sg 1 kr ?_
  refine WL.does kr kr (Does.call (c_frame_noRef H q23) kr ?_)
  rintro _ w ⟨rfl, H⟩
  refine WL.sg 2 kr ?_
  obtain ⟨C24, e24, _, hb24, hc24, rfl⟩ := H.rowAt2 3 rfl g0_19 g1_19
  refine WL.does kr kr (Does.storeRow H 3 rfl (Gh.refl _) (j := x0.x.B.toNat) (by have h0 := g0_19; have h1 := g1_19; omega) hb24 hc24 0 kr kr (y' := (⟨1, y23, (⟨0, (⟨0, 0⟩ : GValue)⟩ : GOut)⟩ : GSlot)) (by show _ = _; kernel_rfl) fun w H => ?_)
  have H := H.recell 0 (cGrunner ({ x0 with Frame := { x0.Frame with Slots := (x0.Frame.Slots.set x0.x.B.toNat (⟨1, y23, (⟨0, (⟨0, 0⟩ : GValue)⟩ : GOut)⟩ : GSlot)) } }) a1 c1 a2 c2 (some ⟨b19, p19, none⟩) c3 a4 c4 a5 c5) rfl (by simp only [cGrunner, List.length_set, List.length_take, copied_len])
  refine WL.fin 0 kr kr ?_
  refine WE.seq ?_
  refine WE.draws mo [0] (ρ' := [(0, .pointer (some ⟨b_0, 0, none⟩))]) kr fun w e1 e2 e3 e4 => ?_
  have H := H.same e1 e2 e3 e4
  clear e1 e2 e3 e4
  refine WD.know [0] kr ?_
  refine WD.know [1] kr ?_
  refine WD.know [2] kr ?_
  refine WD.know [3] kr ?_
  refine WD.know [4] kr ?_
  refine WD.told 5 30 (.int .i64 x0.x.A) kr kr ?_
  refine WD.know [6] kr ?_
  refine WD.know [7] kr ?_
  refine WD.know [8] kr ?_
  refine WD.know [9] kr ?_
  refine WD.told 10 35 (.int .i64 x0.x.B) kr kr ?_
  refine WD.know [11] kr ?_
  refine WD.know [12] kr ?_
  refine WD.know [13] kr ?_
  refine WD.know [14] kr ?_
  refine WD.told 15 40 (.int .i64 x0.Frame.Seed) kr kr ?_
  refine WD.know [16] kr ?_
  refine WD.know [17] kr ?_
  refine WD.know [18] kr ?_
  refine WD.know [19] kr ?_
  refine WD.told 20 45 (.int .i64 x0.Frame.Spawned) kr kr ?_
  refine WD.know [22] kr ?_
  refine WD.know [23] kr ?_
  obtain ⟨y25, q25, hr⟩ := bind_cases hr
  refine WD.does 21 kr rfl (Floats.of [23, 22, 19, 18, 17, 16, 14, 13, 12, 11, 9, 8, 7, 6, 4, 3, 2, 1, 0] [20, 15, 10, 5] kr (Floats.pure _ kr kr) (.cons (.tells rfl kr rfl (.loadV H 0 rfl 6 kr kr)) (.cons (.tells rfl kr rfl (.loadV H 0 rfl 5 kr kr)) (.cons (.tells rfl kr rfl (.loadV H 0 rfl 19 kr kr)) (.cons (.tells rfl kr rfl (.loadV H 0 rfl 18 kr kr)) .nil))))) kr kr (Does.call (c_seed_Child K x0.Frame.Seed x0.Frame.Spawned H q25) kr ?_)
  rintro _ w ⟨rfl, H⟩
  obtain ⟨y26, q26, hr⟩ := bind_cases hr
  refine WD.does 24 kr rfl (Floats.of [23, 22, 19, 18, 17, 16, 14, 13, 12, 11, 9, 8, 7, 6, 4, 3, 2, 1, 0] [10, 5] kr (Floats.pure _ kr kr) (.cons (.tells rfl kr rfl (.loadV H 0 rfl 19 kr kr)) (.cons (.tells rfl kr rfl (.loadV H 0 rfl 18 kr kr)) .nil))) kr kr (Does.call (c_frame_runner_off ({ x0 with Frame := { x0.Frame with Slots := (x0.Frame.Slots.set x0.x.B.toNat (⟨1, y23, (⟨0, (⟨0, 0⟩ : GValue)⟩ : GOut)⟩ : GSlot)) } }) f4 f5 H q26) kr ?_)
  rintro _ w ⟨rfl, H⟩
  obtain ⟨y27, q27, hr⟩ := bind_cases hr
  refine WD.does 25 kr rfl (Floats.of [22, 19, 18, 17, 16, 14, 13, 12, 11, 9, 8, 7, 6, 4, 3, 2, 1, 0] [10, 5] kr (Floats.pure _ kr kr) (.cons (.tells rfl kr rfl (.loadV H 0 rfl 19 kr kr)) (.cons (.tells rfl kr rfl (.loadV H 0 rfl 18 kr kr)) .nil))) kr kr (Does.call (c_frame_runner_pop ({ x0 with Frame := { x0.Frame with Slots := (x0.Frame.Slots.set x0.x.B.toNat (⟨1, y23, (⟨0, (⟨0, 0⟩ : GValue)⟩ : GOut)⟩ : GSlot)) } }) f4 f5 y26 H q27) kr ?_)
  rintro _ w ⟨h27, a28, c28, a30, c30, rfl, le27, H⟩
  refine WD.know [26] kr ?_
  refine WD.know [27] kr ?_
  refine WD.know [28] kr ?_
  refine WD.does 29 kr rfl (Floats.of [28, 27, 26, 19, 18, 17, 16, 14, 13, 12, 11, 9, 8, 7, 6, 4, 3, 2, 1, 0] [10, 5] kr (Floats.pure _ kr kr) (.cons (.tells rfl kr rfl (.loadV H 0 rfl 19 kr kr)) (.cons (.tells rfl kr rfl (.loadV H 0 rfl 18 kr kr)) .nil))) kr kr (Does.storeE H 0 (cGrunner ({ x0 with Frame := { x0.Frame with Stack := y27.2, Slots := (x0.Frame.Slots.set x0.x.B.toNat (⟨1, y23, (⟨0, (⟨0, 0⟩ : GValue)⟩ : GOut)⟩ : GSlot)) }, act := (⟨2, x0.x.A, x0.x.B, y25, y27.1⟩ : GAct) }) a30 c30 a2 c2 (some ⟨b19, p19, none⟩) c3 a4 c4 a28 c28) rfl (q := 20) kr kr kr fun w H => ?_)
  refine WD.fin kr (Floats.of [27] [] kr (Floats.pure _ kr kr) .nil) kr kr ?_
  refine WE.seq ?_
  refine WE.region ?_
  refine WL.sg 4 kr ?_
  refine WL.does kr kr (Does.loadV H 0 rfl 6 kr kr ?_)
  refine WL.sg 4 kr ?_
  refine WL.does kr kr (Does.storeE H 0 (cGrunner ({ x0 with Frame := { x0.Frame with Stack := y27.2, Slots := (x0.Frame.Slots.set x0.x.B.toNat (⟨1, y23, (⟨0, (⟨0, 0⟩ : GValue)⟩ : GOut)⟩ : GSlot)), Spawned := w64 (x0.Frame.Spawned + 1) }, act := (⟨2, x0.x.A, x0.x.B, y25, y27.1⟩ : GAct) }) a30 c30 a2 c2 (some ⟨b19, p19, none⟩) c3 a4 c4 a28 c28) rfl (q := 6) kr kr kr fun w H => ?_)
  refine WL.fin 0 kr kr ?_
  refine WE.region ?_
  refine WL.sg 4 kr ?_
  refine WL.does kr kr (Does.loadV H 0 rfl 1 kr kr ?_)
  refine WL.sg 4 kr ?_
  refine WL.does kr kr (Does.storeE H 0 (cGrunner ({ x0 with Frame := { x0.Frame with Pc := w64 (x0.Frame.Pc + 1), Stack := y27.2, Slots := (x0.Frame.Slots.set x0.x.B.toNat (⟨1, y23, (⟨0, (⟨0, 0⟩ : GValue)⟩ : GOut)⟩ : GSlot)), Spawned := w64 (x0.Frame.Spawned + 1) }, act := (⟨2, x0.x.A, x0.x.B, y25, y27.1⟩ : GAct) }) a30 c30 a2 c2 (some ⟨b19, p19, none⟩) c3 a4 c4 a28 c28) rfl (q := 1) kr kr kr fun w H => ?_)
  refine WL.fin 0 kr kr ?_
  obtain ⟨h32, le32, f32, H⟩ := (H.front 4 rfl).rowFreeze (Gh.refl _)
  have H := H.rowUp 1 rfl le32
  have H := H.rowUp 3 rfl (le27.trans le32)
  obtain rfl := Option.some.inj hr
  exact ⟨[], trivial, ⟨h32, a30, c30, (some ⟨b19, p19, none⟩), c3, a28, c28, rfl, (le27.trans le32), f32, H⟩⟩
  }
def frame_runner_push (x0 : Grunner) (x1 : List GValue) : Option (List GValue) :=
  if (x0.Frame.Stack.length + x1.length) * 16 ≤ LIM then
    some (x0.Frame.Stack ++ x1)
  else none
set_option maxRecDepth 100000 in
set_option maxHeartbeats 4000000 in
theorem c_frame_runner_push {w0 w : World} {h : Gh} {L : List Ent} (x0 : Grunner) {a1 : Option Addr} {c1 : Nat} {a2 : Option Addr} {c2 : Nat} {a3 : Option Addr} {c3 : Nat} {a4 : Option Addr} {c4 : Nat} {a5 : Option Addr} {c5 : Nat} (f4 : Sl rGFunc 48 h a4 c4 x0.p) (f5 : Sl rGValue 16 h a5 c5 x0.act.Args) {b_0 : Nat} (x1 : List GValue) {a6 : Option Addr} {c6 : Nat} (f6 : Sl rGValue 16 h a6 c6 x1) (H : St w0 h w (var b_0 (cGrunner x0 a1 c1 a2 c2 a3 c3 a4 c4 a5 c5) 73 :: row rGValue 16 h a1 c1 x0.Frame.Stack :: row rGValue 16 h a2 c2 x0.Frame.Locals :: row rGSlot 48 h a3 c3 x0.Frame.Slots :: L)) {r : (List GValue)} (hr : frame_runner_push x0 x1 = some r) : Calls Try.prog 59 #[.pointer (some ⟨b_0, 0, none⟩), .slice a6 x1.length c6] w (fun e w' => ∃ v, e = .returned v ∧ ∃ (h' : Gh) (a901 : Option Addr) (c901 : Nat), v = .tuple #[] ∧ h.le h' ∧ St w0 h' w' (var b_0 (cGrunner ({ x0 with Frame := { x0.Frame with Stack := r } }) a901 c901 a2 c2 a3 c3 a4 c4 a5 c5) 73 :: row rGValue 16 h' a901 c901 r :: row rGValue 16 h a2 c2 x0.Frame.Locals :: row rGSlot 48 h a3 c3 x0.Frame.Slots :: L)) := by
  refine calls_of (args := [.pointer (some ⟨b_0, 0, none⟩), .slice a6 x1.length c6]) (n := 15) (rs := []) Try.func59 rfl rfl rfl rfl rfl ?_
  unfold frame_runner_push at hr
  refine WE.region ?_
  refine WL.sg 5 kr ?_
  refine WL.does kr kr (Does.loadV H 0 rfl 2 kr kr ?_)
  obtain ⟨g8, hr⟩ := grd_cases hr
  refine WL.sg 1 kr ?_
  refine WL.does kr kr (Does.append (t := 28) (xt := 28) (ty := 28) (e := 33) (e2 := 33) (z := .agg #[.int .i64 0, .int .i64 0]) H 1 rfl (Gh.refl _) (ys := x1) (c2 := c6) (f6.src H) g8 kr kr kr kr fun a8 c8 w H => ?_)
  refine WL.sg 3 kr ?_
  refine WL.does kr kr (Does.storeE H 0 (cGrunner ({ x0 with Frame := { x0.Frame with Stack := (x0.Frame.Stack ++ x1) } }) a8 c8 a2 c2 a3 c3 a4 c4 a5 c5) rfl (q := 2) kr kr kr fun w H => ?_)
  refine WL.fin 0 kr kr ?_
  obtain rfl := Option.some.inj hr
  exact ⟨[], trivial, ⟨h, a8, c8, rfl, (Gh.refl _), H⟩⟩
def frame_runner_join (x0 : Grunner) : Option (Int × (List GValue) × (List GValue) × (List GSlot) × Int × Int × Int × Int × Int × Int × Int × Int × Int × (List GValue)) :=
  if 0 ≤ x0.x.A ∧ x0.x.A < x0.Frame.Slots.length then
    if ((gd x0.Frame.Slots x0.x.A).State) == 1 then
      some (x0.Frame.Pc, x0.Frame.Stack, x0.Frame.Locals, x0.Frame.Slots, 1, x0.x.A, x0.Frame.Out.Trap, x0.Frame.Out.V.Re, x0.Frame.Out.V.Im, 3, 0, 0, 0, [])
    else
      if ((gd x0.Frame.Slots x0.x.A).State) == 2 then
        if 0 ≤ x0.x.A ∧ x0.x.A < x0.Frame.Slots.length then
          if ((gd x0.Frame.Slots x0.x.A).Out.Trap) != 0 then
            bnd (frame_runner_trap ({ x0 with Frame := { x0.Frame with Slots := (x0.Frame.Slots.set x0.x.A.toNat (⟨0, (⟨0, 0⟩ : GRef), (⟨0, (⟨0, 0⟩ : GValue)⟩ : GOut)⟩ : GSlot)) } }) ((gd x0.Frame.Slots x0.x.A).Out.Trap)) fun y29 =>
            some (x0.Frame.Pc, x0.Frame.Stack, x0.Frame.Locals, (x0.Frame.Slots.set x0.x.A.toNat (⟨0, (⟨0, 0⟩ : GRef), (⟨0, (⟨0, 0⟩ : GValue)⟩ : GOut)⟩ : GSlot)), y29.1, x0.Frame.Wait, y29.2.1, y29.2.2.1, y29.2.2.2.1, y29.2.2.2.2.1, y29.2.2.2.2.2.1, y29.2.2.2.2.2.2.1, y29.2.2.2.2.2.2.2.1, y29.2.2.2.2.2.2.2.2)
          else
            (frame_runner_push ({ x0 with Frame := { x0.Frame with Slots := (x0.Frame.Slots.set x0.x.A.toNat (⟨0, (⟨0, 0⟩ : GRef), (⟨0, (⟨0, 0⟩ : GValue)⟩ : GOut)⟩ : GSlot)) } }) [(⟨(gd x0.Frame.Slots x0.x.A).Out.V.Re, (gd x0.Frame.Slots x0.x.A).Out.V.Im⟩ : GValue)]).bind fun y33 =>
            some (w64 (x0.Frame.Pc + 1), y33, x0.Frame.Locals, (x0.Frame.Slots.set x0.x.A.toNat (⟨0, (⟨0, 0⟩ : GRef), (⟨0, (⟨0, 0⟩ : GValue)⟩ : GOut)⟩ : GSlot)), x0.Frame.State, x0.Frame.Wait, x0.Frame.Out.Trap, x0.Frame.Out.V.Re, x0.Frame.Out.V.Im, x0.act.Kind, x0.act.Fn, x0.act.Slot, x0.act.Seed, x0.act.Args)
        else none
      else
        bnd (frame_runner_trap x0 2) fun y36 =>
        some (x0.Frame.Pc, x0.Frame.Stack, x0.Frame.Locals, x0.Frame.Slots, y36.1, x0.Frame.Wait, y36.2.1, y36.2.2.1, y36.2.2.2.1, y36.2.2.2.2.1, y36.2.2.2.2.2.1, y36.2.2.2.2.2.2.1, y36.2.2.2.2.2.2.2.1, y36.2.2.2.2.2.2.2.2)
  else none
set_option maxRecDepth 100000 in
set_option maxHeartbeats 4000000 in
theorem c_frame_runner_join {w0 w : World} {h : Gh} {L : List Ent} (x0 : Grunner) {a1 : Option Addr} {c1 : Nat} {a2 : Option Addr} {c2 : Nat} {a3 : Option Addr} {c3 : Nat} {a4 : Option Addr} {c4 : Nat} {a5 : Option Addr} {c5 : Nat} (f4 : Sl rGFunc 48 h a4 c4 x0.p) (f5 : Sl rGValue 16 h a5 c5 x0.act.Args) {b_0 : Nat} (H : St w0 h w (var b_0 (cGrunner x0 a1 c1 a2 c2 a3 c3 a4 c4 a5 c5) 73 :: row rGValue 16 h a1 c1 x0.Frame.Stack :: row rGValue 16 h a2 c2 x0.Frame.Locals :: row rGSlot 48 h a3 c3 x0.Frame.Slots :: L)) {r : Int × (List GValue) × (List GValue) × (List GSlot) × Int × Int × Int × Int × Int × Int × Int × Int × Int × (List GValue)} (hr : frame_runner_join x0 = some r) : Calls Try.prog 33 #[.pointer (some ⟨b_0, 0, none⟩)] w (fun e w' => ∃ v, e = .returned v ∧ ∃ (h' : Gh) (a901 : Option Addr) (c901 : Nat) (a903 : Option Addr) (c903 : Nat) (a905 : Option Addr) (c905 : Nat) (a907 : Option Addr) (c907 : Nat), v = .tuple #[] ∧ h.le h' ∧ Sl rGValue 16 h' a907 c907 r.2.2.2.2.2.2.2.2.2.2.2.2.2 ∧ St w0 h' w' (var b_0 (cGrunner ({ x0 with Frame := (⟨x0.Frame.Fn, r.1, r.2.1, r.2.2.1, r.2.2.2.1, x0.Frame.Seed, x0.Frame.Spawned, x0.Frame.Draws, r.2.2.2.2.1, r.2.2.2.2.2.1, (⟨r.2.2.2.2.2.2.1, (⟨r.2.2.2.2.2.2.2.1, r.2.2.2.2.2.2.2.2.1⟩ : GValue)⟩ : GOut), x0.Frame.Up, x0.Frame.UpSlot⟩ : GFrame), act := (⟨r.2.2.2.2.2.2.2.2.2.1, r.2.2.2.2.2.2.2.2.2.2.1, r.2.2.2.2.2.2.2.2.2.2.2.1, r.2.2.2.2.2.2.2.2.2.2.2.2.1, r.2.2.2.2.2.2.2.2.2.2.2.2.2⟩ : GAct) }) a901 c901 a903 c903 a905 c905 a4 c4 a907 c907) 73 :: row rGValue 16 h' a901 c901 r.2.1 :: row rGValue 16 h' a903 c903 r.2.2.1 :: row rGSlot 48 h' a905 c905 r.2.2.2.1 :: L)) := by
  refine calls_of (args := [.pointer (some ⟨b_0, 0, none⟩)]) (n := 76) (rs := []) Try.func33 rfl rfl rfl rfl rfl ?_
  unfold frame_runner_join at hr
  refine WE.seq ?_
  refine WE.draws mo [0] (ρ' := [(0, .pointer (some ⟨b_0, 0, none⟩))]) kr fun w e1 e2 e3 e4 => ?_
  have H := H.same e1 e2 e3 e4
  clear e1 e2 e3 e4
  refine WD.know [0] kr ?_
  refine WD.know [1] kr ?_
  refine WD.know [2] kr ?_
  refine WD.know [3] kr ?_
  refine WD.told 4 7 (.slice a3 x0.Frame.Slots.length c3) kr kr ?_
  refine WD.know [5] kr ?_
  refine WD.know [6] kr ?_
  refine WD.know [7] kr ?_
  refine WD.know [8] kr ?_
  refine WD.told 9 12 (.int .i64 x0.x.A) kr kr ?_
  obtain ⟨⟨g0_22, g1_22⟩, hr⟩ := grd_cases hr
  obtain ⟨b22, p22, rfl⟩ := H.rowSome 3 rfl g0_22 g1_22
  refine WD.told 10 13 (.pointer (some ⟨b22, p22 + x0.x.A.toNat * 6, none⟩)) kr kr ?_
  refine WD.told 11 14 (.agg (cGSlot (⟨(gd x0.Frame.Slots x0.x.A).State, (⟨(gd x0.Frame.Slots x0.x.A).Kid.At, (gd x0.Frame.Slots x0.x.A).Kid.Gen⟩ : GRef), (⟨(gd x0.Frame.Slots x0.x.A).Out.Trap, (⟨(gd x0.Frame.Slots x0.x.A).Out.V.Re, (gd x0.Frame.Slots x0.x.A).Out.V.Im⟩ : GValue)⟩ : GOut)⟩ : GSlot)).toArray) kr kr ?_
  refine WD.does 12 kr rfl (Floats.of [8, 7, 6, 5, 3, 2, 1, 0] [11, 10, 9, 4] kr (Floats.pure _ kr kr) (.cons (.tells rfl kr kr (.loadRow (v := .agg (cGSlot (⟨(gd x0.Frame.Slots x0.x.A).State, (⟨(gd x0.Frame.Slots x0.x.A).Kid.At, (gd x0.Frame.Slots x0.x.A).Kid.Gen⟩ : GRef), (⟨(gd x0.Frame.Slots x0.x.A).Out.Trap, (⟨(gd x0.Frame.Slots x0.x.A).Out.V.Re, (gd x0.Frame.Slots x0.x.A).Out.V.Im⟩ : GValue)⟩ : GOut)⟩ : GSlot)).toArray) H 3 rfl g0_22 g1_22 0 6 rfl (fun _ e => by rcases e with rfl; kernel_rfl) kr)) (.cons (.tells rfl kr kr (.idx b22 (p22) x0.Frame.Slots.length c3 x0.x.A 6 kr kr g0_22 g1_22 kr)) (.cons (.tells rfl kr rfl (.loadV H 0 rfl 18 kr kr)) (.cons (.tells rfl kr rfl (.loadV H 0 rfl 4 kr kr)) .nil))))) kr kr (Does.alloc H (cGSlot (⟨0, (⟨0, 0⟩ : GRef), (⟨0, (⟨0, 0⟩ : GValue)⟩ : GOut)⟩ : GSlot)) kr fun b23 w H => ?_)
  refine WD.does 13 kr rfl (Floats.of [8, 7, 6, 5, 3, 2, 1, 0] [11, 10, 9, 4] kr (Floats.pure _ kr kr) (.cons (.tells rfl kr kr (.loadRow (v := .agg (cGSlot (⟨(gd x0.Frame.Slots x0.x.A).State, (⟨(gd x0.Frame.Slots x0.x.A).Kid.At, (gd x0.Frame.Slots x0.x.A).Kid.Gen⟩ : GRef), (⟨(gd x0.Frame.Slots x0.x.A).Out.Trap, (⟨(gd x0.Frame.Slots x0.x.A).Out.V.Re, (gd x0.Frame.Slots x0.x.A).Out.V.Im⟩ : GValue)⟩ : GOut)⟩ : GSlot)).toArray) H 4 rfl g0_22 g1_22 0 6 rfl (fun _ e => by rcases e with rfl; kernel_rfl) kr)) (.cons (.tells rfl kr kr (.idx b22 (p22) x0.Frame.Slots.length c3 x0.x.A 6 kr kr g0_22 g1_22 kr)) (.cons (.tells rfl kr rfl (.loadV H 1 rfl 18 kr kr)) (.cons (.tells rfl kr rfl (.loadV H 1 rfl 4 kr kr)) .nil))))) kr kr (Does.storeE H 0 (cGSlot (⟨(gd x0.Frame.Slots x0.x.A).State, (⟨(gd x0.Frame.Slots x0.x.A).Kid.At, (gd x0.Frame.Slots x0.x.A).Kid.Gen⟩ : GRef), (⟨(gd x0.Frame.Slots x0.x.A).Out.Trap, (⟨(gd x0.Frame.Slots x0.x.A).Out.V.Re, (gd x0.Frame.Slots x0.x.A).Out.V.Im⟩ : GValue)⟩ : GOut)⟩ : GSlot)) rfl (q := 0) kr kr kr fun w H => ?_)
  refine WD.fin kr (Floats.of [] [] kr .nil .nil) kr kr ?_
  refine WE.seq ?_
  refine WE.seq ?_
  refine WE.region ?_
  refine WL.sg 1 kr ?_
  refine WL.does kr kr (Does.loadV H 0 rfl 0 kr kr ?_)
  refine WL.fin 0 kr kr ?_
  refine WE.block ?_
  refine WE.seq ?_
  refine WE.region ?_
  refine WL.fin 2 kr kr ?_
  rcases ite_cases hr with ⟨t24, hr⟩ | ⟨t24, hr⟩
  {
  refine WE.yes kr (b := ((gd x0.Frame.Slots x0.x.A).State) == 1) kr t24 ?_
  refine WE.seq ?_
  refine WE.region ?_
  refine WL.sg 7 kr ?_
  refine WL.does kr kr (Does.loadV H 1 rfl 18 kr kr ?_)
  refine WL.sg 4 kr ?_
  refine WL.does kr kr (Does.storeE H 1 (cGrunner ({ x0 with Frame := { x0.Frame with State := 1 } }) a1 c1 a2 c2 (some ⟨b22, p22, none⟩) c3 a4 c4 a5 c5) rfl (q := 8) kr kr kr fun w H => ?_)
  refine WL.sg 3 kr ?_
  refine WL.does kr kr (Does.storeE H 1 (cGrunner ({ x0 with Frame := { x0.Frame with State := 1, Wait := x0.x.A } }) a1 c1 a2 c2 (some ⟨b22, p22, none⟩) c3 a4 c4 a5 c5) rfl (q := 9) kr kr kr fun w H => ?_)
  refine WL.sg 2 kr ?_
  refine WL.does kr kr (Does.storeE H 1 (cGrunner ({ x0 with Frame := { x0.Frame with State := 1, Wait := x0.x.A }, act := (⟨3, 0, 0, 0, []⟩ : GAct) }) a1 c1 a2 c2 (some ⟨b22, p22, none⟩) c3 a4 c4 none 0) rfl (q := 20) kr kr kr fun w H => ?_)
  refine WL.fin 0 kr kr ?_
  obtain rfl := Option.some.inj hr
  exact WE.ret ⟨[], trivial, ⟨h, a1, c1, a2, c2, (some ⟨b22, p22, none⟩), c3, none, 0, rfl, (Gh.refl _), (Sl.nil _ _ (Nat.zero_le _)), (H.keep 1)⟩⟩
  }
  {
  refine WE.no kr (b := ((gd x0.Frame.Slots x0.x.A).State) == 1) kr t24 ?_
  refine WE.seq ?_
  refine WE.region ?_
  refine WL.fin 2 kr kr ?_
  rcases ite_cases hr with ⟨t25, hr⟩ | ⟨t25, hr⟩
  {
  refine WE.yes kr (b := ((gd x0.Frame.Slots x0.x.A).State) == 2) kr t25 ?_
  refine WE.skip ?_
  refine WE.seq ?_
  refine WE.draws mo [0, 2] (ρ' := [(0, .pointer (some ⟨b_0, 0, none⟩)), (2, .pointer (some ⟨b23, 0, none⟩))]) kr fun w e1 e2 e3 e4 => ?_
  have H := H.same e1 e2 e3 e4
  clear e1 e2 e3 e4
  refine WD.know [0] kr ?_
  refine WD.know [1] kr ?_
  refine WD.know [2] kr ?_
  refine WD.know [3] kr ?_
  refine WD.told 4 44 (.slice (some ⟨b22, p22, none⟩) x0.Frame.Slots.length c3) kr kr ?_
  refine WD.know [5] kr ?_
  refine WD.know [6] kr ?_
  refine WD.know [7] kr ?_
  refine WD.know [8] kr ?_
  refine WD.told 9 49 (.int .i64 x0.x.A) kr kr ?_
  refine WD.know [10] kr ?_
  obtain ⟨⟨g0_26, g1_26⟩, hr⟩ := grd_cases hr
  refine WD.told 11 51 (.pointer (some ⟨b22, p22 + x0.x.A.toNat * 6, none⟩)) kr kr ?_
  refine WD.does 12 kr rfl (Floats.of [10, 8, 7, 6, 5, 3, 2, 1, 0] [11, 9, 4] kr (Floats.pure _ kr kr) (.cons (.tells rfl kr kr (.idx b22 (p22) x0.Frame.Slots.length c3 x0.x.A 6 kr kr g0_26 g1_26 kr)) (.cons (.tells rfl kr rfl (.loadV H 1 rfl 18 kr kr)) (.cons (.tells rfl kr rfl (.loadV H 1 rfl 4 kr kr)) .nil)))) kr kr ?_
  obtain ⟨C27, e27, _, hb27, hc27, rfl⟩ := H.rowAt2 4 rfl g0_26 g1_26
  refine Does.storeRow H 4 rfl (Gh.refl _) (j := x0.x.A.toNat) (by have h0 := g0_26; have h1 := g1_26; omega) hb27 hc27 0 kr kr (y' := (⟨0, (⟨0, 0⟩ : GRef), (⟨0, (⟨0, 0⟩ : GValue)⟩ : GOut)⟩ : GSlot)) (by show _ = _; kernel_rfl) fun w H => ?_
  refine WD.spelt 44 (v := .slice (some ⟨b22, p22, none⟩) (x0.Frame.Slots.set x0.x.A.toNat (⟨0, (⟨0, 0⟩ : GRef), (⟨0, (⟨0, 0⟩ : GValue)⟩ : GOut)⟩ : GSlot)).length c3) kr (Eq.trans (b := .slice (some ⟨b22, p22, none⟩) x0.Frame.Slots.length c3) kr (sl_len (List.length_set ..).symm)) ?_
  have H := H.recell 1 (cGrunner ({ x0 with Frame := { x0.Frame with Slots := (x0.Frame.Slots.set x0.x.A.toNat (⟨0, (⟨0, 0⟩ : GRef), (⟨0, (⟨0, 0⟩ : GValue)⟩ : GOut)⟩ : GSlot)) } }) a1 c1 a2 c2 (some ⟨b22, p22, none⟩) c3 a4 c4 a5 c5) rfl (by simp only [cGrunner, List.length_set, List.length_take, copied_len])
  refine WD.fin kr (Floats.of [] [] kr .nil .nil) kr kr ?_
  refine WE.seq ?_
  refine WE.seq ?_
  refine WE.region ?_
  refine WL.sg 2 kr ?_
  refine WL.does kr kr (Does.loadV H 0 rfl 3 kr kr ?_)
  refine WL.fin 1 kr kr ?_
  rcases ite_cases hr with ⟨t28, hr⟩ | ⟨t28, hr⟩
  {
  refine WE.yes kr (b := ((gd x0.Frame.Slots x0.x.A).Out.Trap) != 0) kr t28 ?_
  refine WE.seq ?_
  refine WE.region ?_
  refine WL.sg 3 kr ?_
  refine WL.does kr kr (Does.loadV H 0 rfl 3 kr kr ?_)
  obtain ⟨y29, q29, hr⟩ := bnd_cases hr
  refine WL.does kr kr (Does.call (c_frame_runner_trap ({ x0 with Frame := { x0.Frame with Slots := (x0.Frame.Slots.set x0.x.A.toNat (⟨0, (⟨0, 0⟩ : GRef), (⟨0, (⟨0, 0⟩ : GValue)⟩ : GOut)⟩ : GSlot)) } }) f4 f5 ((gd x0.Frame.Slots x0.x.A).Out.Trap) ((((H.front 4 rfl).front 4 rfl).front 4 rfl).front 4 rfl) q29) kr ?_)
  rintro _ w ⟨h29, a30, c30, rfl, le29, f30, H⟩
  refine WL.fin 0 kr kr ?_
  have H := H.rowUp 1 rfl le29
  have H := H.rowUp 2 rfl le29
  have H := H.rowUp 3 rfl le29
  obtain rfl := Option.some.inj hr
  exact WE.ret ⟨[], trivial, ⟨h29, a1, c1, a2, c2, (some ⟨b22, p22, none⟩), c3, a30, c30, rfl, le29, f30, (((((H.front 3 rfl).front 3 rfl).front 3 rfl).front 3 rfl).mid 4 1)⟩⟩
  }
  {
  refine WE.no kr (b := ((gd x0.Frame.Slots x0.x.A).Out.Trap) != 0) kr t28 ?_
  refine WE.skip ?_
  refine WE.seq ?_
  refine WE.region ?_
  refine WL.sg 3 kr ?_
  refine WL.does kr kr (Does.loadV H 0 rfl 4 kr kr ?_)
  refine WL.does kr kr (Does.lit (K := rGValue) (B := 16) (xs := [(⟨(gd x0.Frame.Slots x0.x.A).Out.V.Re, (gd x0.Frame.Slots x0.x.A).Out.V.Im⟩ : GValue)]) (e := 33) H ([.int .i64 ((gd x0.Frame.Slots x0.x.A).Out.V.Re), .int .i64 ((gd x0.Frame.Slots x0.x.A).Out.V.Im)] ++ []) kr (Rows.cons (C := [.int .i64 ((gd x0.Frame.Slots x0.x.A).Out.V.Re), .int .i64 ((gd x0.Frame.Slots x0.x.A).Out.V.Im)]) (x := (⟨(gd x0.Frame.Slots x0.x.A).Out.V.Re, (gd x0.Frame.Slots x0.x.A).Out.V.Im⟩ : GValue)) (by show _ = _; kernel_rfl) Rows.nil) kr kr kr kr fun b31 w H => ?_)
  obtain ⟨y33, q33, hr⟩ := bind_cases hr
  obtain ⟨h32, le32, f32, H, bk32⟩ := (H).rowLend (Gh.refl _)
  have H := H.rowUp 2 rfl le32
  have H := H.rowUp 3 rfl le32
  have H := H.rowUp 4 rfl le32
  refine WL.does kr kr (Does.call (c_frame_runner_push ({ x0 with Frame := { x0.Frame with Slots := (x0.Frame.Slots.set x0.x.A.toNat (⟨0, (⟨0, 0⟩ : GRef), (⟨0, (⟨0, 0⟩ : GValue)⟩ : GOut)⟩ : GSlot)) } }) (f4.up le32) (f5.up le32) [(⟨(gd x0.Frame.Slots x0.x.A).Out.V.Re, (gd x0.Frame.Slots x0.x.A).Out.V.Im⟩ : GValue)] f32 ((((H.front 4 rfl).front 4 rfl).front 4 rfl).front 4 rfl) q33) kr ?_)
  rintro _ w ⟨h33, a34, c34, rfl, le33, H⟩
  obtain ⟨h32', le32', H⟩ := bk32 _ _ _ le33 H
  have H := H.rowFlat (h' := h32') 2 rfl (fun _ _ e => e)
  have H := H.rowFlat (h' := h32') 3 rfl (fun _ _ e => e)
  have H := H.rowFlat (h' := h32') 4 rfl (fun _ _ e => e)
  refine WL.fin 0 kr kr ?_
  refine WE.region ?_
  refine WL.sg 4 kr ?_
  refine WL.does kr kr (Does.loadV H 1 rfl 1 kr kr ?_)
  refine WL.sg 4 kr ?_
  refine WL.does kr kr (Does.storeE H 1 (cGrunner ({ x0 with Frame := { x0.Frame with Pc := w64 (x0.Frame.Pc + 1), Stack := y33, Slots := (x0.Frame.Slots.set x0.x.A.toNat (⟨0, (⟨0, 0⟩ : GRef), (⟨0, (⟨0, 0⟩ : GValue)⟩ : GOut)⟩ : GSlot)) } }) a34 c34 a2 c2 (some ⟨b22, p22, none⟩) c3 a4 c4 a5 c5) rfl (q := 1) kr kr kr fun w H => ?_)
  refine WL.fin 0 kr kr ?_
  obtain rfl := Option.some.inj hr
  exact ⟨[], trivial, ⟨h32', a34, c34, a2, c2, (some ⟨b22, p22, none⟩), c3, a5, c5, rfl, le32', (f5.up le32'), (((((H.front 4 rfl).front 4 rfl).front 4 rfl).front 4 rfl).mid 4 2)⟩⟩
  }
  }
  {
  refine WE.no kr (b := ((gd x0.Frame.Slots x0.x.A).State) == 2) kr t25 ?_
  refine WE.seq ?_
  refine WE.region ?_
  obtain ⟨y36, q36, hr⟩ := bnd_cases hr
  refine WL.sg 1 kr ?_
  refine WL.does kr kr (Does.call (c_frame_runner_trap x0 f4 f5 2 ((((H.front 4 rfl).front 4 rfl).front 4 rfl).front 4 rfl) q36) kr ?_)
  rintro _ w ⟨h36, a37, c37, rfl, le36, f37, H⟩
  refine WL.fin 0 kr kr ?_
  have H := H.rowUp 1 rfl le36
  have H := H.rowUp 2 rfl le36
  have H := H.rowUp 3 rfl le36
  obtain rfl := Option.some.inj hr
  exact WE.ret ⟨[], trivial, ⟨h36, a1, c1, a2, c2, (some ⟨b22, p22, none⟩), c3, a37, c37, rfl, le36, f37, (((((H.front 3 rfl).front 3 rfl).front 3 rfl).front 3 rfl).mid 4 1)⟩⟩
  }
  }
def gauss_of (x0 : GValue) : (Nat × Nat) :=
  bnd (gauss_rest x0.Re) fun y2 =>
  bnd (gauss_rest x0.Im) fun y3 =>
  (fOf y2, fOf y3)
set_option maxRecDepth 100000 in
set_option maxHeartbeats 4000000 in
theorem c_gauss_of {w0 w : World} {h : Gh} {L : List Ent} (x0 : GValue) (H : St w0 h w L) {r : (Nat × Nat)} (hr : gauss_of x0 = r) : Calls Try.prog 81 #[.agg #[.int .i64 x0.Re, .int .i64 x0.Im]] w (fun e w' => ∃ v, e = .returned v ∧ v = .complex .f64 r.1 r.2 ∧ St w0 h w' (L)) := by
  refine calls_of (args := [.agg #[.int .i64 x0.Re, .int .i64 x0.Im]]) (n := 12) (rs := [.tmp 2]) Try.func81 rfl rfl rfl rfl rfl ?_
  unfold gauss_of at hr
  refine WE.seq ?_
  refine WE.region ?_
  refine WL.does kr kr (Does.box H [.int .i64 x0.Re, .int .i64 x0.Im] kr fun b1 w H => ?_)
  refine WL.fin 1 kr kr ?_
  refine WE.seq ?_
  refine WE.draws mo [1] (ρ' := [(1, .pointer (some ⟨b1, 0, none⟩))]) kr fun w e1 e2 e3 e4 => ?_
  have H := H.same e1 e2 e3 e4
  clear e1 e2 e3 e4
  refine WD.know [0] kr ?_
  refine WD.told 1 4 (.int .i64 x0.Re) kr kr ?_
  refine WD.know [4] kr ?_
  refine WD.told 5 8 (.int .i64 x0.Im) kr kr ?_
  obtain ⟨y2, q2, hr⟩ := bnd_cases hr
  refine WD.does 2 kr rfl (Floats.of [4, 0] [5, 1] kr (Floats.pure _ kr kr) (.cons (.tells rfl kr rfl (.loadV H 0 rfl 1 kr kr)) (.cons (.tells rfl kr rfl (.loadV H 0 rfl 0 kr kr)) .nil))) kr kr (Does.call (c_gauss_rest x0.Re H q2) kr ?_)
  rintro _ w ⟨rfl, H⟩
  refine WD.know [3] kr ?_
  obtain ⟨y3, q3, hr⟩ := bnd_cases hr
  refine WD.does 6 kr rfl (Floats.of [3, 4, 0] [5] kr (Floats.pure _ kr kr) (.cons (.tells rfl kr rfl (.loadV H 0 rfl 1 kr kr)) .nil)) kr kr (Does.call (c_gauss_rest x0.Im H q3) kr ?_)
  rintro _ w ⟨rfl, H⟩
  refine WD.know [7] kr ?_
  refine WD.know [8] kr ?_
  refine WD.does 9 kr rfl (Floats.of [8, 7, 3, 4, 0] [] kr (Floats.pure _ kr kr) .nil) kr kr (Does.reck kr ?_)
  refine WD.fin kr (Floats.of [] [] kr .nil .nil) kr kr ?_
  obtain rfl := hr
  exact WE.ret ⟨[.complex .f64 (fOf y2) (fOf y3)], ⟨⟨kr, kr⟩, trivial⟩, ⟨rfl, (H.keep 1)⟩⟩
def gauss_Of (x0 : Int) (x1 : Int) : GValue :=
  bnd (gauss_rest x0) fun y2 =>
  bnd (gauss_rest x1) fun y3 =>
  (⟨y2, y3⟩ : GValue)
set_option maxRecDepth 100000 in
set_option maxHeartbeats 4000000 in
theorem c_gauss_Of {w0 w : World} {h : Gh} {L : List Ent} (x0 : Int) (x1 : Int) (H : St w0 h w L) {r : GValue} (hr : gauss_Of x0 x1 = r) : Calls Try.prog 64 #[.int .i64 x0, .int .i64 x1] w (fun e w' => ∃ v, e = .returned v ∧ v = .agg #[.int .i64 r.Re, .int .i64 r.Im] ∧ St w0 h w' (L)) := by
  refine calls_of (args := [.int .i64 x0, .int .i64 x1]) (n := 10) (rs := [.cell 4 33]) Try.func64 rfl rfl rfl rfl rfl ?_
  unfold gauss_Of at hr
  refine WE.seq ?_
  refine WE.region ?_
  refine WL.does kr kr (Does.alloc H [.int .i64 0, .int .i64 0] kr fun b1 w H => ?_)
  refine WL.fin 0 kr kr ?_
  refine WE.seq ?_
  refine WE.region ?_
  obtain ⟨y2, q2, hr⟩ := bnd_cases hr
  refine WL.sg 1 kr ?_
  refine WL.does kr kr (Does.call (c_gauss_rest x0 H q2) kr ?_)
  rintro _ w ⟨rfl, H⟩
  obtain ⟨y3, q3, hr⟩ := bnd_cases hr
  refine WL.sg 1 kr ?_
  refine WL.does kr kr (Does.call (c_gauss_rest x1 H q3) kr ?_)
  rintro _ w ⟨rfl, H⟩
  refine WL.sg 1 kr ?_
  refine WL.does kr kr (Does.storeE H 0 [.int .i64 y2, .int .i64 y3] rfl (q := 0) kr kr kr fun w H => ?_)
  refine WL.fin 0 kr kr ?_
  obtain rfl := hr
  exact WE.ret ⟨[.agg #[.int .i64 y2, .int .i64 y3]], ⟨⟨kr, ⟨b1, 0, none⟩, kr, H.loadVar 0 rfl 0 kr⟩, trivial⟩, ⟨rfl, (H.keep 1)⟩⟩
def gauss_value (x0 : Nat × Nat) : Option GValue :=
  (floatToIntVal .f64 x0.1 .i64).bind fun y2 =>
  (floatToIntVal .f64 x0.2 .i64).bind fun y3 =>
  bnd (gauss_Of y2 y3) fun y4 =>
  some y4
set_option maxRecDepth 100000 in
set_option maxHeartbeats 4000000 in
theorem c_gauss_value {w0 w : World} {h : Gh} {L : List Ent} (x0 : Nat × Nat) (H : St w0 h w L) {r : GValue} (hr : gauss_value x0 = some r) : Calls Try.prog 80 #[.complex .f64 x0.1 x0.2] w (fun e w' => ∃ v, e = .returned v ∧ v = .agg #[.int .i64 r.Re, .int .i64 r.Im] ∧ St w0 h w' (L)) := by
  refine calls_of (args := [.complex .f64 x0.1 x0.2]) (n := 10) (rs := [.cell 2 33]) Try.func80 rfl rfl rfl rfl rfl ?_
  unfold gauss_value at hr
  refine WE.seq ?_
  refine WE.region ?_
  refine WL.does kr kr (Does.alloc H [.int .i64 0, .int .i64 0] kr fun b1 w H => ?_)
  refine WL.fin 0 kr kr ?_
  refine WE.seq ?_
  refine WE.region ?_
  obtain ⟨y2, qy2, hr⟩ := bind_cases hr
  refine WL.sg 2 kr ?_
  refine WL.does kr kr (Does.tells (.toInt kr kr kr qy2) ?_)
  obtain ⟨y3, qy3, hr⟩ := bind_cases hr
  refine WL.sg 2 kr ?_
  refine WL.does kr kr (Does.tells (.toInt kr kr kr qy3) ?_)
  obtain ⟨y4, q4, hr⟩ := bnd_cases hr
  refine WL.does kr kr (Does.call (c_gauss_Of y2 y3 H q4) kr ?_)
  rintro _ w ⟨rfl, H⟩
  refine WL.does kr kr (Does.storeE H 0 [.int .i64 y4.Re, .int .i64 y4.Im] rfl (q := 0) kr kr kr fun w H => ?_)
  refine WL.fin 0 kr kr ?_
  obtain rfl := Option.some.inj hr
  exact WE.ret ⟨[.agg #[.int .i64 y4.Re, .int .i64 y4.Im]], ⟨⟨kr, ⟨b1, 0, none⟩, kr, H.loadVar 0 rfl 0 kr⟩, trivial⟩, ⟨rfl, (H.keep 1)⟩⟩
def gauss_Add (x0 : GValue) (x1 : GValue) : Option GValue :=
  bnd (gauss_of x0) fun y4 =>
  bnd (gauss_of x1) fun y5 =>
  (cAdd y4 y5).bind fun y6 =>
  (gauss_value y6).bind fun y7 =>
  some y7
set_option maxRecDepth 100000 in
set_option maxHeartbeats 4000000 in
theorem c_gauss_Add {w0 w : World} {h : Gh} {L : List Ent} (x0 : GValue) (x1 : GValue) (H : St w0 h w L) {r : GValue} (hr : gauss_Add x0 x1 = some r) : Calls Try.prog 60 #[.agg #[.int .i64 x0.Re, .int .i64 x0.Im], .agg #[.int .i64 x1.Re, .int .i64 x1.Im]] w (fun e w' => ∃ v, e = .returned v ∧ v = .agg #[.int .i64 r.Re, .int .i64 r.Im] ∧ St w0 h w' (L)) := by
  refine calls_of (args := [.agg #[.int .i64 x0.Re, .int .i64 x0.Im], .agg #[.int .i64 x1.Re, .int .i64 x1.Im]]) (n := 11) (rs := [.cell 4 33]) Try.func60 rfl rfl rfl rfl rfl ?_
  unfold gauss_Add at hr
  refine WE.seq ?_
  refine WE.region ?_
  refine WL.does kr kr (Does.box H [.int .i64 x0.Re, .int .i64 x0.Im] kr fun b1 w H => ?_)
  refine WL.does kr kr (Does.box H [.int .i64 x1.Re, .int .i64 x1.Im] kr fun b2 w H => ?_)
  refine WL.does kr kr (Does.alloc H [.int .i64 0, .int .i64 0] kr fun b3 w H => ?_)
  refine WL.fin 0 kr kr ?_
  refine WE.seq ?_
  refine WE.draws mo [2, 3, 4] (ρ' := [(2, .pointer (some ⟨b1, 0, none⟩)), (3, .pointer (some ⟨b2, 0, none⟩)), (4, .pointer (some ⟨b3, 0, none⟩))]) kr fun w e1 e2 e3 e4 => ?_
  have H := H.same e1 e2 e3 e4
  clear e1 e2 e3 e4
  refine WD.told 0 5 (.agg #[.int .i64 x0.Re, .int .i64 x0.Im]) kr kr ?_
  refine WD.told 2 7 (.agg #[.int .i64 x1.Re, .int .i64 x1.Im]) kr kr ?_
  obtain ⟨y4, q4, hr⟩ := bnd_cases hr
  refine WD.does 1 kr rfl (Floats.of [] [2, 0] kr .nil (.cons (.tells rfl kr rfl (.loadV H 1 rfl 0 kr kr)) (.cons (.tells rfl kr rfl (.loadV H 2 rfl 0 kr kr)) .nil))) kr kr (Does.call (c_gauss_of x0 H q4) kr ?_)
  rintro _ w ⟨rfl, H⟩
  obtain ⟨y5, q5, hr⟩ := bnd_cases hr
  refine WD.does 3 kr rfl (Floats.of [] [2] kr .nil (.cons (.tells rfl kr rfl (.loadV H 1 rfl 0 kr kr)) .nil)) kr kr (Does.call (c_gauss_of x1 H q5) kr ?_)
  rintro _ w ⟨rfl, H⟩
  obtain ⟨y6, qy6, hr⟩ := bind_cases hr
  refine WD.told 4 9 (.complex .f64 y6.1 y6.2) kr kr ?_
  obtain ⟨y7, q7, hr⟩ := bind_cases hr
  refine WD.does 5 kr rfl (Floats.of [] [4] kr .nil (.cons (.tells rfl kr kr (.cAdd (u := y4) (v := y5) kr kr qy6 kr)) .nil)) kr kr (Does.call (c_gauss_value y6 H q7) kr ?_)
  rintro _ w ⟨rfl, H⟩
  refine WD.does 6 kr rfl (Floats.of [] [] kr .nil .nil) kr kr (Does.storeE H 0 [.int .i64 y7.Re, .int .i64 y7.Im] rfl (q := 0) kr kr kr fun w H => ?_)
  refine WD.fin kr (Floats.of [] [] kr .nil .nil) kr kr ?_
  obtain rfl := Option.some.inj hr
  exact WE.ret ⟨[.agg #[.int .i64 y7.Re, .int .i64 y7.Im]], ⟨⟨kr, ⟨b3, 0, none⟩, kr, H.loadVar 0 rfl 0 kr⟩, trivial⟩, ⟨rfl, (H.keep 3)⟩⟩
def gauss_Sub (x0 : GValue) (x1 : GValue) : Option GValue :=
  bnd (gauss_of x0) fun y4 =>
  bnd (gauss_of x1) fun y5 =>
  (cSub y4 y5).bind fun y6 =>
  (gauss_value y6).bind fun y7 =>
  some y7
set_option maxRecDepth 100000 in
set_option maxHeartbeats 4000000 in
theorem c_gauss_Sub {w0 w : World} {h : Gh} {L : List Ent} (x0 : GValue) (x1 : GValue) (H : St w0 h w L) {r : GValue} (hr : gauss_Sub x0 x1 = some r) : Calls Try.prog 61 #[.agg #[.int .i64 x0.Re, .int .i64 x0.Im], .agg #[.int .i64 x1.Re, .int .i64 x1.Im]] w (fun e w' => ∃ v, e = .returned v ∧ v = .agg #[.int .i64 r.Re, .int .i64 r.Im] ∧ St w0 h w' (L)) := by
  refine calls_of (args := [.agg #[.int .i64 x0.Re, .int .i64 x0.Im], .agg #[.int .i64 x1.Re, .int .i64 x1.Im]]) (n := 11) (rs := [.cell 4 33]) Try.func61 rfl rfl rfl rfl rfl ?_
  unfold gauss_Sub at hr
  refine WE.seq ?_
  refine WE.region ?_
  refine WL.does kr kr (Does.box H [.int .i64 x0.Re, .int .i64 x0.Im] kr fun b1 w H => ?_)
  refine WL.does kr kr (Does.box H [.int .i64 x1.Re, .int .i64 x1.Im] kr fun b2 w H => ?_)
  refine WL.does kr kr (Does.alloc H [.int .i64 0, .int .i64 0] kr fun b3 w H => ?_)
  refine WL.fin 0 kr kr ?_
  refine WE.seq ?_
  refine WE.draws mo [2, 3, 4] (ρ' := [(2, .pointer (some ⟨b1, 0, none⟩)), (3, .pointer (some ⟨b2, 0, none⟩)), (4, .pointer (some ⟨b3, 0, none⟩))]) kr fun w e1 e2 e3 e4 => ?_
  have H := H.same e1 e2 e3 e4
  clear e1 e2 e3 e4
  refine WD.told 0 5 (.agg #[.int .i64 x0.Re, .int .i64 x0.Im]) kr kr ?_
  refine WD.told 2 7 (.agg #[.int .i64 x1.Re, .int .i64 x1.Im]) kr kr ?_
  obtain ⟨y4, q4, hr⟩ := bnd_cases hr
  refine WD.does 1 kr rfl (Floats.of [] [2, 0] kr .nil (.cons (.tells rfl kr rfl (.loadV H 1 rfl 0 kr kr)) (.cons (.tells rfl kr rfl (.loadV H 2 rfl 0 kr kr)) .nil))) kr kr (Does.call (c_gauss_of x0 H q4) kr ?_)
  rintro _ w ⟨rfl, H⟩
  obtain ⟨y5, q5, hr⟩ := bnd_cases hr
  refine WD.does 3 kr rfl (Floats.of [] [2] kr .nil (.cons (.tells rfl kr rfl (.loadV H 1 rfl 0 kr kr)) .nil)) kr kr (Does.call (c_gauss_of x1 H q5) kr ?_)
  rintro _ w ⟨rfl, H⟩
  obtain ⟨y6, qy6, hr⟩ := bind_cases hr
  refine WD.told 4 9 (.complex .f64 y6.1 y6.2) kr kr ?_
  obtain ⟨y7, q7, hr⟩ := bind_cases hr
  refine WD.does 5 kr rfl (Floats.of [] [4] kr .nil (.cons (.tells rfl kr kr (.cSub (u := y4) (v := y5) kr kr qy6 kr)) .nil)) kr kr (Does.call (c_gauss_value y6 H q7) kr ?_)
  rintro _ w ⟨rfl, H⟩
  refine WD.does 6 kr rfl (Floats.of [] [] kr .nil .nil) kr kr (Does.storeE H 0 [.int .i64 y7.Re, .int .i64 y7.Im] rfl (q := 0) kr kr kr fun w H => ?_)
  refine WD.fin kr (Floats.of [] [] kr .nil .nil) kr kr ?_
  obtain rfl := Option.some.inj hr
  exact WE.ret ⟨[.agg #[.int .i64 y7.Re, .int .i64 y7.Im]], ⟨⟨kr, ⟨b3, 0, none⟩, kr, H.loadVar 0 rfl 0 kr⟩, trivial⟩, ⟨rfl, (H.keep 3)⟩⟩
def gauss_Mul (x0 : GValue) (x1 : GValue) : Option GValue :=
  bnd (gauss_of x0) fun y4 =>
  bnd (gauss_of x1) fun y5 =>
  (cMul y4 y5).bind fun y6 =>
  (gauss_value y6).bind fun y7 =>
  some y7
set_option maxRecDepth 100000 in
set_option maxHeartbeats 4000000 in
theorem c_gauss_Mul {w0 w : World} {h : Gh} {L : List Ent} (x0 : GValue) (x1 : GValue) (H : St w0 h w L) {r : GValue} (hr : gauss_Mul x0 x1 = some r) : Calls Try.prog 62 #[.agg #[.int .i64 x0.Re, .int .i64 x0.Im], .agg #[.int .i64 x1.Re, .int .i64 x1.Im]] w (fun e w' => ∃ v, e = .returned v ∧ v = .agg #[.int .i64 r.Re, .int .i64 r.Im] ∧ St w0 h w' (L)) := by
  refine calls_of (args := [.agg #[.int .i64 x0.Re, .int .i64 x0.Im], .agg #[.int .i64 x1.Re, .int .i64 x1.Im]]) (n := 11) (rs := [.cell 4 33]) Try.func62 rfl rfl rfl rfl rfl ?_
  unfold gauss_Mul at hr
  refine WE.seq ?_
  refine WE.region ?_
  refine WL.does kr kr (Does.box H [.int .i64 x0.Re, .int .i64 x0.Im] kr fun b1 w H => ?_)
  refine WL.does kr kr (Does.box H [.int .i64 x1.Re, .int .i64 x1.Im] kr fun b2 w H => ?_)
  refine WL.does kr kr (Does.alloc H [.int .i64 0, .int .i64 0] kr fun b3 w H => ?_)
  refine WL.fin 0 kr kr ?_
  refine WE.seq ?_
  refine WE.draws mo [2, 3, 4] (ρ' := [(2, .pointer (some ⟨b1, 0, none⟩)), (3, .pointer (some ⟨b2, 0, none⟩)), (4, .pointer (some ⟨b3, 0, none⟩))]) kr fun w e1 e2 e3 e4 => ?_
  have H := H.same e1 e2 e3 e4
  clear e1 e2 e3 e4
  refine WD.told 0 5 (.agg #[.int .i64 x0.Re, .int .i64 x0.Im]) kr kr ?_
  refine WD.told 2 7 (.agg #[.int .i64 x1.Re, .int .i64 x1.Im]) kr kr ?_
  obtain ⟨y4, q4, hr⟩ := bnd_cases hr
  refine WD.does 1 kr rfl (Floats.of [] [2, 0] kr .nil (.cons (.tells rfl kr rfl (.loadV H 1 rfl 0 kr kr)) (.cons (.tells rfl kr rfl (.loadV H 2 rfl 0 kr kr)) .nil))) kr kr (Does.call (c_gauss_of x0 H q4) kr ?_)
  rintro _ w ⟨rfl, H⟩
  obtain ⟨y5, q5, hr⟩ := bnd_cases hr
  refine WD.does 3 kr rfl (Floats.of [] [2] kr .nil (.cons (.tells rfl kr rfl (.loadV H 1 rfl 0 kr kr)) .nil)) kr kr (Does.call (c_gauss_of x1 H q5) kr ?_)
  rintro _ w ⟨rfl, H⟩
  obtain ⟨y6, qy6, hr⟩ := bind_cases hr
  refine WD.told 4 9 (.complex .f64 y6.1 y6.2) kr kr ?_
  obtain ⟨y7, q7, hr⟩ := bind_cases hr
  refine WD.does 5 kr rfl (Floats.of [] [4] kr .nil (.cons (.tells rfl kr kr (.cMul (u := y4) (v := y5) kr kr qy6 kr)) .nil)) kr kr (Does.call (c_gauss_value y6 H q7) kr ?_)
  rintro _ w ⟨rfl, H⟩
  refine WD.does 6 kr rfl (Floats.of [] [] kr .nil .nil) kr kr (Does.storeE H 0 [.int .i64 y7.Re, .int .i64 y7.Im] rfl (q := 0) kr kr kr fun w H => ?_)
  refine WD.fin kr (Floats.of [] [] kr .nil .nil) kr kr ?_
  obtain rfl := Option.some.inj hr
  exact WE.ret ⟨[.agg #[.int .i64 y7.Re, .int .i64 y7.Im]], ⟨⟨kr, ⟨b3, 0, none⟩, kr, H.loadVar 0 rfl 0 kr⟩, trivial⟩, ⟨rfl, (H.keep 3)⟩⟩
def gauss_Pow_l1 (K : Nat) : Nat → (Int × Int × Int × Int × Int) → Option GValue
  | 0, _ => none
  | k1 + 1, (y23, y24, y25, y26, y27) =>
    if decide (y27 > 0) then
      if (Int.tmod y27 2) == 1 then
        (gauss_Mul (⟨y25, y26⟩ : GValue) (⟨y23, y24⟩ : GValue)).bind fun y30 =>
        (gauss_Mul (⟨y23, y24⟩ : GValue) (⟨y23, y24⟩ : GValue)).bind fun y31 =>
        gauss_Pow_l1 K k1 (y31.Re, y31.Im, y30.Re, y30.Im, w64 (y27.tdiv 2))
      else
        (gauss_Mul (⟨y23, y24⟩ : GValue) (⟨y23, y24⟩ : GValue)).bind fun y32 =>
        gauss_Pow_l1 K k1 (y32.Re, y32.Im, y25, y26, w64 (y27.tdiv 2))
    else
      some (⟨y25, y26⟩ : GValue)
def gauss_Pow (K : Nat) (x0 : GValue) (x1 : Int) : Option GValue :=
  if decide (x1 < 0) then
    some (⟨0, 0⟩ : GValue)
  else
    bnd (gauss_Of 1 0) fun y4 =>
    bnd (gauss_of x0) fun y6 =>
    (gauss_value y6).bind fun y7 =>
    gauss_Pow_l1 K K (y7.Re, y7.Im, y4.Re, y4.Im, x1)
set_option maxRecDepth 100000 in
set_option maxHeartbeats 4000000 in
theorem c_gauss_Pow {w0 w : World} {h : Gh} {L : List Ent} (K : Nat) (x0 : GValue) (x1 : Int) (H : St w0 h w L) {r : GValue} (hr : gauss_Pow K x0 x1 = some r) : Calls Try.prog 82 #[.agg #[.int .i64 x0.Re, .int .i64 x0.Im], .int .i64 x1] w (fun e w' => ∃ v, e = .returned v ∧ v = .agg #[.int .i64 r.Re, .int .i64 r.Im] ∧ St w0 h w' (L)) := by
  refine calls_of (args := [.agg #[.int .i64 x0.Re, .int .i64 x0.Im], .int .i64 x1]) (n := 27) (rs := [.cell 4 33]) Try.func82 rfl rfl rfl rfl rfl ?_
  unfold gauss_Pow at hr
  refine WE.seq ?_
  refine WE.region ?_
  refine WL.does kr kr (Does.box H [.int .i64 x0.Re, .int .i64 x0.Im] kr fun b1 w H => ?_)
  refine WL.does kr kr (Does.alloc H [.int .i64 0, .int .i64 0] kr fun b2 w H => ?_)
  refine WL.fin 0 kr kr ?_
  refine WE.seq ?_
  refine WE.seq ?_
  refine WE.region ?_
  refine WL.fin 2 kr kr ?_
  rcases ite_cases hr with ⟨t3, hr⟩ | ⟨t3, hr⟩
  {
  refine WE.yes kr (b := decide (x1 < 0)) kr t3 ?_
  refine WE.seq ?_
  refine WE.region ?_
  refine WL.sg 1 kr ?_
  refine WL.does kr kr (Does.storeE H 0 [.int .i64 0, .int .i64 0] rfl (q := 0) kr kr kr fun w H => ?_)
  refine WL.fin 0 kr kr ?_
  obtain rfl := Option.some.inj hr
  exact WE.ret ⟨[.agg #[.int .i64 0, .int .i64 0]], ⟨⟨kr, ⟨b2, 0, none⟩, kr, H.loadVar 0 rfl 0 kr⟩, trivial⟩, ⟨rfl, (H.keep 2)⟩⟩
  }
  {
  refine WE.no kr (b := decide (x1 < 0)) kr t3 ?_
  refine WE.skip ?_
  refine WE.seq ?_
  refine WE.region ?_
  obtain ⟨y4, q4, hr⟩ := bnd_cases hr
  refine WL.does kr kr (Does.call (c_gauss_Of 1 0 H q4) kr ?_)
  rintro _ w ⟨rfl, H⟩
  refine WL.does kr kr (Does.alloc H [.int .i64 0, .int .i64 0] kr fun b5 w H => ?_)
  refine WL.does kr kr (Does.storeE H 0 [.int .i64 y4.Re, .int .i64 y4.Im] rfl (q := 0) kr kr kr fun w H => ?_)
  refine WL.fin 0 kr kr ?_
  refine WE.seq ?_
  refine WE.seq ?_
  refine WE.region ?_
  refine WL.does kr kr (Does.loadV H 2 rfl 0 kr kr ?_)
  obtain ⟨y6, q6, hr⟩ := bnd_cases hr
  refine WL.does kr kr (Does.call (c_gauss_of x0 H q6) kr ?_)
  rintro _ w ⟨rfl, H⟩
  obtain ⟨y7, q7, hr⟩ := bind_cases hr
  refine WL.does kr kr (Does.call (c_gauss_value y6 H q7) kr ?_)
  rintro _ w ⟨rfl, H⟩
  refine WL.does kr kr (Does.storeE H 2 [.int .i64 y7.Re, .int .i64 y7.Im] rfl (q := 0) kr kr kr fun w H => ?_)
  refine WL.fin 0 kr kr ?_
  refine WE.block ?_
  refine WE.loop (LP.live [1, 2, 4, 5] kr (LP.rec (gauss_Pow_l1 K) (fun (⟨y23, y24, y25, y26, y27⟩ : Int × Int × Int × Int × Int) (_ : Unit) => [(1, .int .i64 y27), (2, .pointer (some ⟨b1, 0, none⟩)), (4, .pointer (some ⟨b2, 0, none⟩)), (5, .pointer (some ⟨b5, 0, none⟩))]) (fun (⟨y23, y24, y25, y26, y27⟩ : Int × Int × Int × Int × Int) (_ : Unit) => fun w => St w0 h w (var b5 [.int .i64 y25, .int .i64 y26] 33 :: var b2 [.int .i64 0, .int .i64 0] 33 :: var b1 [.int .i64 y23, .int .i64 y24] 33 :: L)) r (fun _ => rfl) ?_ K (y7.Re, y7.Im, y4.Re, y4.Im, x1) () _ H hr))
  rintro k1 ih1 ⟨y23, y24, y25, y26, y27⟩ _ w H hr
  simp only [gauss_Pow_l1] at hr
  refine WE.seq ?_
  refine WE.seq ?_
  refine WE.region ?_
  refine WL.fin 2 kr kr ?_
  rcases ite_cases hr with ⟨t28, hr⟩ | ⟨t28, hr⟩
  {
  refine WE.yes kr (b := decide (y27 > 0)) kr t28 ?_
  refine WE.skip ?_
  refine WE.seq ?_
  refine WE.block ?_
  refine WE.seq ?_
  refine WE.seq ?_
  refine WE.region ?_
  refine WL.fin 3 kr kr ?_
  rcases ite_cases hr with ⟨t29, hr⟩ | ⟨t29, hr⟩
  {
  refine WE.yes kr (b := (Int.tmod y27 2) == 1) kr t29 ?_
  refine WE.region ?_
  refine WL.does kr kr (Does.loadV H 0 rfl 0 kr kr ?_)
  refine WL.does kr kr (Does.loadV H 2 rfl 0 kr kr ?_)
  obtain ⟨y30, q30, hr⟩ := bind_cases hr
  refine WL.does kr kr (Does.call (c_gauss_Mul (⟨y25, y26⟩ : GValue) (⟨y23, y24⟩ : GValue) H q30) kr ?_)
  rintro _ w ⟨rfl, H⟩
  refine WL.does kr kr (Does.storeE H 0 [.int .i64 y30.Re, .int .i64 y30.Im] rfl (q := 0) kr kr kr fun w H => ?_)
  refine WL.fin 0 kr kr ?_
  refine WE.region ?_
  refine WL.does kr kr (Does.loadV H 2 rfl 0 kr kr ?_)
  refine WL.does kr kr (Does.loadV H 2 rfl 0 kr kr ?_)
  obtain ⟨y31, q31, hr⟩ := bind_cases hr
  refine WL.does kr kr (Does.call (c_gauss_Mul (⟨y23, y24⟩ : GValue) (⟨y23, y24⟩ : GValue) H q31) kr ?_)
  rintro _ w ⟨rfl, H⟩
  refine WL.does kr kr (Does.storeE H 2 [.int .i64 y31.Re, .int .i64 y31.Im] rfl (q := 0) kr kr kr fun w H => ?_)
  refine WL.fin 0 kr kr ?_
  refine WE.region ?_
  refine WL.fin 3 kr kr ?_
  exact LP.live [1, 2, 4, 5] kr (ih1 (y31.Re, y31.Im, y30.Re, y30.Im, w64 (y27.tdiv 2)) () _ H hr)
  }
  {
  refine WE.no kr (b := (Int.tmod y27 2) == 1) kr t29 ?_
  refine WE.skip ?_
  refine WE.region ?_
  refine WL.does kr kr (Does.loadV H 2 rfl 0 kr kr ?_)
  refine WL.does kr kr (Does.loadV H 2 rfl 0 kr kr ?_)
  obtain ⟨y32, q32, hr⟩ := bind_cases hr
  refine WL.does kr kr (Does.call (c_gauss_Mul (⟨y23, y24⟩ : GValue) (⟨y23, y24⟩ : GValue) H q32) kr ?_)
  rintro _ w ⟨rfl, H⟩
  refine WL.does kr kr (Does.storeE H 2 [.int .i64 y32.Re, .int .i64 y32.Im] rfl (q := 0) kr kr kr fun w H => ?_)
  refine WL.fin 0 kr kr ?_
  refine WE.region ?_
  refine WL.fin 3 kr kr ?_
  exact LP.live [1, 2, 4, 5] kr (ih1 (y32.Re, y32.Im, y25, y26, w64 (y27.tdiv 2)) () _ H hr)
  }
  }
  {
  refine WE.no kr (b := decide (y27 > 0)) kr t28 ?_
  refine WE.exit ?_
  refine WE.seq ?_
  refine WE.region ?_
  refine WL.does kr kr (Does.loadV H 0 rfl 0 kr kr ?_)
  refine WL.does kr kr (Does.storeE H 1 [.int .i64 y25, .int .i64 y26] rfl (q := 0) kr kr kr fun w H => ?_)
  refine WL.fin 0 kr kr ?_
  obtain rfl := Option.some.inj hr
  exact WE.ret ⟨[.agg #[.int .i64 y25, .int .i64 y26]], ⟨⟨kr, ⟨b2, 0, none⟩, kr, H.loadVar 1 rfl 0 kr⟩, trivial⟩, ⟨rfl, (H.keep 3)⟩⟩
  }
  }
def gauss_Div (K : Nat) (x0 : GValue) (x1 : GValue) : Option (GValue × Bool) :=
  bnd (gauss_of x1) fun y4 =>
  if cEq y4 (0, 0) then
    some ((⟨0, 0⟩ : GValue), false)
  else
    (gauss_Pow K x1 62999).bind fun y6 =>
    (gauss_Mul x0 y6).bind fun y7 =>
    some (y7, true)
set_option maxRecDepth 100000 in
set_option maxHeartbeats 4000000 in
theorem c_gauss_Div {w0 w : World} {h : Gh} {L : List Ent} (K : Nat) (x0 : GValue) (x1 : GValue) (H : St w0 h w L) {r : GValue × Bool} (hr : gauss_Div K x0 x1 = some r) : Calls Try.prog 63 #[.agg #[.int .i64 x0.Re, .int .i64 x0.Im], .agg #[.int .i64 x1.Re, .int .i64 x1.Im]] w (fun e w' => ∃ v, e = .returned v ∧ v = .tuple #[.agg #[.int .i64 r.1.Re, .int .i64 r.1.Im], .bool r.2] ∧ St w0 h w' (L)) := by
  refine calls_of (args := [.agg #[.int .i64 x0.Re, .int .i64 x0.Im], .agg #[.int .i64 x1.Re, .int .i64 x1.Im]]) (n := 14) (rs := [.cell 4 33, .tmp 5]) Try.func63 rfl rfl rfl rfl rfl ?_
  unfold gauss_Div at hr
  refine WE.seq ?_
  refine WE.region ?_
  refine WL.does kr kr (Does.box H [.int .i64 x0.Re, .int .i64 x0.Im] kr fun b1 w H => ?_)
  refine WL.does kr kr (Does.box H [.int .i64 x1.Re, .int .i64 x1.Im] kr fun b2 w H => ?_)
  refine WL.does kr kr (Does.alloc H [.int .i64 0, .int .i64 0] kr fun b3 w H => ?_)
  refine WL.fin 1 kr kr ?_
  refine WE.seq ?_
  refine WE.seq ?_
  refine WE.region ?_
  refine WL.does kr kr (Does.loadV H 1 rfl 0 kr kr ?_)
  obtain ⟨y4, q4, hr⟩ := bnd_cases hr
  refine WL.does kr kr (Does.call (c_gauss_of x1 H q4) kr ?_)
  rintro _ w ⟨rfl, H⟩
  refine WL.fin 1 kr kr ?_
  rcases ite_cases hr with ⟨t5, hr⟩ | ⟨t5, hr⟩
  {
  refine WE.yes kr (b := cEq y4 (0, 0)) kr t5 ?_
  refine WE.seq ?_
  refine WE.region ?_
  refine WL.sg 1 kr ?_
  refine WL.does kr kr (Does.storeE H 0 [.int .i64 0, .int .i64 0] rfl (q := 0) kr kr kr fun w H => ?_)
  refine WL.fin 1 kr kr ?_
  obtain rfl := Option.some.inj hr
  exact WE.ret ⟨[.agg #[.int .i64 0, .int .i64 0], .bool false], ⟨⟨kr, ⟨b3, 0, none⟩, kr, H.loadVar 0 rfl 0 kr⟩, ⟨kr, kr⟩, trivial⟩, ⟨rfl, (H.keep 3)⟩⟩
  }
  {
  refine WE.no kr (b := cEq y4 (0, 0)) kr t5 ?_
  refine WE.skip ?_
  refine WE.seq ?_
  refine WE.draws mo [2, 3, 4] (ρ' := [(2, .pointer (some ⟨b1, 0, none⟩)), (3, .pointer (some ⟨b2, 0, none⟩)), (4, .pointer (some ⟨b3, 0, none⟩))]) kr fun w e1 e2 e3 e4 => ?_
  have H := H.same e1 e2 e3 e4
  clear e1 e2 e3 e4
  refine WD.told 0 10 (.agg #[.int .i64 x0.Re, .int .i64 x0.Im]) kr kr ?_
  refine WD.told 1 11 (.agg #[.int .i64 x1.Re, .int .i64 x1.Im]) kr kr ?_
  obtain ⟨y6, q6, hr⟩ := bind_cases hr
  refine WD.does 2 kr rfl (Floats.of [] [1, 0] kr .nil (.cons (.tells rfl kr rfl (.loadV H 1 rfl 0 kr kr)) (.cons (.tells rfl kr rfl (.loadV H 2 rfl 0 kr kr)) .nil))) kr kr (Does.call (c_gauss_Pow K x1 62999 H q6) kr ?_)
  rintro _ w ⟨rfl, H⟩
  obtain ⟨y7, q7, hr⟩ := bind_cases hr
  refine WD.does 3 kr rfl (Floats.of [] [0] kr .nil (.cons (.tells rfl kr rfl (.loadV H 2 rfl 0 kr kr)) .nil)) kr kr (Does.call (c_gauss_Mul x0 y6 H q7) kr ?_)
  rintro _ w ⟨rfl, H⟩
  refine WD.does 4 kr rfl (Floats.of [] [] kr .nil .nil) kr kr (Does.storeE H 0 [.int .i64 y7.Re, .int .i64 y7.Im] rfl (q := 0) kr kr kr fun w H => ?_)
  refine WD.does 5 kr rfl (Floats.of [] [] kr .nil .nil) kr kr (Does.reck kr ?_)
  refine WD.fin kr (Floats.of [] [] kr .nil .nil) kr kr ?_
  obtain rfl := Option.some.inj hr
  exact WE.ret ⟨[.agg #[.int .i64 y7.Re, .int .i64 y7.Im], .bool true], ⟨⟨kr, ⟨b3, 0, none⟩, kr, H.loadVar 0 rfl 0 kr⟩, ⟨kr, kr⟩, trivial⟩, ⟨rfl, (H.keep 3)⟩⟩
  }
def frame_runner_two (K : Nat) (x0 : Grunner) : Option (Int × (List GValue) × (List GValue) × (List GSlot) × Int × Int × Int × Int × Int × Int × Int × Int × (List GValue)) :=
  (frame_runner_pop x0 2).bind fun y60 =>
  if x0.x.Op == 3 then
    if 0 ≤ (0 : Int) ∧ (0 : Int) < y60.1.length then
      if 0 ≤ (1 : Int) ∧ (1 : Int) < y60.1.length then
        (gauss_Add (⟨(gd y60.1 (0 : Int)).Re, (gd y60.1 (0 : Int)).Im⟩ : GValue) (⟨(gd y60.1 (1 : Int)).Re, (gd y60.1 (1 : Int)).Im⟩ : GValue)).bind fun y69 =>
        (frame_runner_push ({ x0 with Frame := { x0.Frame with Stack := y60.2 } }) [y69]).bind fun y72 =>
        some (w64 (x0.Frame.Pc + 1), y72, x0.Frame.Locals, x0.Frame.Slots, x0.Frame.State, x0.Frame.Out.Trap, x0.Frame.Out.V.Re, x0.Frame.Out.V.Im, x0.act.Kind, x0.act.Fn, x0.act.Slot, x0.act.Seed, x0.act.Args)
      else none
    else none
  else
    if x0.x.Op == 4 then
      if 0 ≤ (0 : Int) ∧ (0 : Int) < y60.1.length then
        if 0 ≤ (1 : Int) ∧ (1 : Int) < y60.1.length then
          (gauss_Sub (⟨(gd y60.1 (0 : Int)).Re, (gd y60.1 (0 : Int)).Im⟩ : GValue) (⟨(gd y60.1 (1 : Int)).Re, (gd y60.1 (1 : Int)).Im⟩ : GValue)).bind fun y78 =>
          (frame_runner_push ({ x0 with Frame := { x0.Frame with Stack := y60.2 } }) [y78]).bind fun y81 =>
          some (w64 (x0.Frame.Pc + 1), y81, x0.Frame.Locals, x0.Frame.Slots, x0.Frame.State, x0.Frame.Out.Trap, x0.Frame.Out.V.Re, x0.Frame.Out.V.Im, x0.act.Kind, x0.act.Fn, x0.act.Slot, x0.act.Seed, x0.act.Args)
        else none
      else none
    else
      if x0.x.Op == 5 then
        if 0 ≤ (0 : Int) ∧ (0 : Int) < y60.1.length then
          if 0 ≤ (1 : Int) ∧ (1 : Int) < y60.1.length then
            (gauss_Mul (⟨(gd y60.1 (0 : Int)).Re, (gd y60.1 (0 : Int)).Im⟩ : GValue) (⟨(gd y60.1 (1 : Int)).Re, (gd y60.1 (1 : Int)).Im⟩ : GValue)).bind fun y87 =>
            (frame_runner_push ({ x0 with Frame := { x0.Frame with Stack := y60.2 } }) [y87]).bind fun y90 =>
            some (w64 (x0.Frame.Pc + 1), y90, x0.Frame.Locals, x0.Frame.Slots, x0.Frame.State, x0.Frame.Out.Trap, x0.Frame.Out.V.Re, x0.Frame.Out.V.Im, x0.act.Kind, x0.act.Fn, x0.act.Slot, x0.act.Seed, x0.act.Args)
          else none
        else none
      else
        if x0.x.Op == 6 then
          if 0 ≤ (0 : Int) ∧ (0 : Int) < y60.1.length then
            if 0 ≤ (1 : Int) ∧ (1 : Int) < y60.1.length then
              (gauss_Div K (⟨(gd y60.1 (0 : Int)).Re, (gd y60.1 (0 : Int)).Im⟩ : GValue) (⟨(gd y60.1 (1 : Int)).Re, (gd y60.1 (1 : Int)).Im⟩ : GValue)).bind fun y96 =>
              if !y96.2 then
                (frame_runner_push ({ x0 with Frame := { x0.Frame with Stack := y60.2 } }) y60.1).bind fun y99 =>
                bnd (frame_runner_trap ({ x0 with Frame := { x0.Frame with Stack := y99 } }) 1) fun y102 =>
                some (x0.Frame.Pc, y99, x0.Frame.Locals, x0.Frame.Slots, y102.1, y102.2.1, y102.2.2.1, y102.2.2.2.1, y102.2.2.2.2.1, y102.2.2.2.2.2.1, y102.2.2.2.2.2.2.1, y102.2.2.2.2.2.2.2.1, y102.2.2.2.2.2.2.2.2)
              else
                (frame_runner_push ({ x0 with Frame := { x0.Frame with Stack := y60.2 } }) [y96.1]).bind fun y106 =>
                some (w64 (x0.Frame.Pc + 1), y106, x0.Frame.Locals, x0.Frame.Slots, x0.Frame.State, x0.Frame.Out.Trap, x0.Frame.Out.V.Re, x0.Frame.Out.V.Im, x0.act.Kind, x0.act.Fn, x0.act.Slot, x0.act.Seed, x0.act.Args)
            else none
          else none
        else
          (frame_runner_push ({ x0 with Frame := { x0.Frame with Stack := y60.2 } }) [(⟨0, 0⟩ : GValue)]).bind fun y111 =>
          some (w64 (x0.Frame.Pc + 1), y111, x0.Frame.Locals, x0.Frame.Slots, x0.Frame.State, x0.Frame.Out.Trap, x0.Frame.Out.V.Re, x0.Frame.Out.V.Im, x0.act.Kind, x0.act.Fn, x0.act.Slot, x0.act.Seed, x0.act.Args)
set_option maxRecDepth 100000 in
set_option maxHeartbeats 4000000 in
theorem c_frame_runner_two {w0 w : World} {h : Gh} {L : List Ent} (K : Nat) (x0 : Grunner) {a1 : Option Addr} {c1 : Nat} {a2 : Option Addr} {c2 : Nat} {a3 : Option Addr} {c3 : Nat} {a4 : Option Addr} {c4 : Nat} {a5 : Option Addr} {c5 : Nat} (f4 : Sl rGFunc 48 h a4 c4 x0.p) (f5 : Sl rGValue 16 h a5 c5 x0.act.Args) {b_0 : Nat} (H : St w0 h w (var b_0 (cGrunner x0 a1 c1 a2 c2 a3 c3 a4 c4 a5 c5) 73 :: row rGValue 16 h a1 c1 x0.Frame.Stack :: row rGValue 16 h a2 c2 x0.Frame.Locals :: row rGSlot 48 h a3 c3 x0.Frame.Slots :: L)) {r : Int × (List GValue) × (List GValue) × (List GSlot) × Int × Int × Int × Int × Int × Int × Int × Int × (List GValue)} (hr : frame_runner_two K x0 = some r) : Calls Try.prog 34 #[.pointer (some ⟨b_0, 0, none⟩)] w (fun e w' => ∃ v, e = .returned v ∧ ∃ (h' : Gh) (a901 : Option Addr) (c901 : Nat) (a903 : Option Addr) (c903 : Nat) (a905 : Option Addr) (c905 : Nat) (a907 : Option Addr) (c907 : Nat), v = .tuple #[] ∧ h.le h' ∧ Sl rGValue 16 h' a907 c907 r.2.2.2.2.2.2.2.2.2.2.2.2 ∧ St w0 h' w' (var b_0 (cGrunner ({ x0 with Frame := { x0.Frame with Pc := r.1, Stack := r.2.1, Locals := r.2.2.1, Slots := r.2.2.2.1, State := r.2.2.2.2.1, Out := (⟨r.2.2.2.2.2.1, (⟨r.2.2.2.2.2.2.1, r.2.2.2.2.2.2.2.1⟩ : GValue)⟩ : GOut) }, act := (⟨r.2.2.2.2.2.2.2.2.1, r.2.2.2.2.2.2.2.2.2.1, r.2.2.2.2.2.2.2.2.2.2.1, r.2.2.2.2.2.2.2.2.2.2.2.1, r.2.2.2.2.2.2.2.2.2.2.2.2⟩ : GAct) }) a901 c901 a903 c903 a905 c905 a4 c4 a907 c907) 73 :: row rGValue 16 h' a901 c901 r.2.1 :: row rGValue 16 h' a903 c903 r.2.2.1 :: row rGSlot 48 h' a905 c905 r.2.2.2.1 :: L)) := by
  refine calls_of (args := [.pointer (some ⟨b_0, 0, none⟩)]) (n := 71) (rs := []) Try.func34 rfl rfl rfl rfl rfl ?_
  unfold frame_runner_two at hr
  refine WE.seq ?_
  refine WE.region ?_
  obtain ⟨y60, q60, hr⟩ := bind_cases hr
  refine WL.sg 1 kr ?_
  refine WL.does kr kr (Does.call (c_frame_runner_pop x0 f4 f5 2 H q60) kr ?_)
  rintro _ w ⟨h60, a61, c61, a63, c63, rfl, le60, H⟩
  refine WL.fin 1 kr kr ?_
  refine WE.seq ?_
  refine WE.region ?_
  refine WL.does kr kr (Does.alloc H [.int .i64 0, .int .i64 0] kr fun b65 w H => ?_)
  refine WL.fin 0 kr kr ?_
  refine WE.seq ?_
  refine WE.region ?_
  refine WL.fin 1 kr kr ?_
  refine WE.seq ?_
  refine WE.seq ?_
  refine WE.region ?_
  refine WL.sg 4 kr ?_
  refine WL.does kr kr (Does.loadV H 1 rfl 17 kr kr ?_)
  refine WL.fin 0 kr kr ?_
  refine WE.block ?_
  refine WE.seq ?_
  refine WE.region ?_
  refine WL.fin 2 kr kr ?_
  rcases ite_cases hr with ⟨t66, hr⟩ | ⟨t66, hr⟩
  {
  refine WE.yes kr (b := x0.x.Op == 3) kr t66 ?_
  refine WE.draws mo [0, 2, 3] (ρ' := [(0, .pointer (some ⟨b_0, 0, none⟩)), (2, .slice a61 y60.1.length c61), (3, .pointer (some ⟨b65, 0, none⟩))]) kr fun w e1 e2 e3 e4 => ?_
  have H := H.same e1 e2 e3 e4
  clear e1 e2 e3 e4
  refine WD.know [0] kr ?_
  obtain ⟨⟨g0_67, g1_67⟩, hr⟩ := grd_cases hr
  obtain ⟨b67, p67, rfl⟩ := H.rowSome 5 rfl g0_67 g1_67
  refine WD.told 1 15 (.pointer (some ⟨b67, p67 + (0 : Int).toNat * 2, none⟩)) kr kr ?_
  refine WD.told 2 16 (.agg #[.int .i64 ((gd y60.1 (0 : Int)).Re), .int .i64 ((gd y60.1 (0 : Int)).Im)]) kr kr ?_
  refine WD.know [3] kr ?_
  obtain ⟨⟨g0_68, g1_68⟩, hr⟩ := grd_cases hr
  refine WD.told 4 18 (.pointer (some ⟨b67, p67 + (1 : Int).toNat * 2, none⟩)) kr kr ?_
  refine WD.told 5 19 (.agg #[.int .i64 ((gd y60.1 (1 : Int)).Re), .int .i64 ((gd y60.1 (1 : Int)).Im)]) kr kr ?_
  obtain ⟨y69, q69, hr⟩ := bind_cases hr
  refine WD.does 6 kr rfl (Floats.of [3, 0] [5, 4, 2, 1] kr (Floats.pure _ kr kr) (.cons (.tells rfl kr kr (.loadRow (v := .agg #[.int .i64 ((gd y60.1 (1 : Int)).Re), .int .i64 ((gd y60.1 (1 : Int)).Im)]) H 5 rfl g0_68 g1_68 0 2 rfl (fun _ e => by rcases e with rfl; kernel_rfl) kr)) (.cons (.tells rfl kr kr (.idx b67 (p67) y60.1.length c61 (1 : Int) 2 kr kr g0_68 g1_68 kr)) (.cons (.tells rfl kr kr (.loadRow (v := .agg #[.int .i64 ((gd y60.1 (0 : Int)).Re), .int .i64 ((gd y60.1 (0 : Int)).Im)]) H 5 rfl g0_67 g1_67 0 2 rfl (fun _ e => by rcases e with rfl; kernel_rfl) kr)) (.cons (.tells rfl kr kr (.idx b67 (p67) y60.1.length c61 (0 : Int) 2 kr kr g0_67 g1_67 kr)) .nil))))) kr kr (Does.call (c_gauss_Add (⟨(gd y60.1 (0 : Int)).Re, (gd y60.1 (0 : Int)).Im⟩ : GValue) (⟨(gd y60.1 (1 : Int)).Re, (gd y60.1 (1 : Int)).Im⟩ : GValue) H q69) kr ?_)
  rintro _ w ⟨rfl, H⟩
  refine WD.does 7 kr rfl (Floats.of [3, 0] [4, 1] kr (Floats.pure _ kr kr) (.cons (.tells rfl kr kr (.idx b67 (p67) y60.1.length c61 (1 : Int) 2 kr kr g0_68 g1_68 kr)) (.cons (.tells rfl kr kr (.idx b67 (p67) y60.1.length c61 (0 : Int) 2 kr kr g0_67 g1_67 kr)) .nil))) kr kr (Does.storeE H 0 [.int .i64 y69.Re, .int .i64 y69.Im] rfl (q := 0) kr kr kr fun w H => ?_)
  refine WD.fin kr (Floats.of [] [] kr .nil .nil) kr kr ?_
  refine WE.seq ?_
  refine WE.region ?_
  refine WL.sg 1 kr ?_
  refine WL.does kr kr (Does.loadV H 0 rfl 0 kr kr ?_)
  refine WL.does kr kr (Does.lit (K := rGValue) (B := 16) (xs := [y69]) (e := 33) H ([.int .i64 y69.Re, .int .i64 y69.Im] ++ []) kr (Rows.cons (C := [.int .i64 y69.Re, .int .i64 y69.Im]) (x := y69) (by show _ = _; kernel_rfl) Rows.nil) kr kr kr kr fun b70 w H => ?_)
  obtain ⟨y72, q72, hr⟩ := bind_cases hr
  obtain ⟨h71, le71, f71, H, bk71⟩ := (H).rowLend (Gh.refl _)
  have H := H.rowUp 2 rfl le71
  have H := H.rowUp 3 rfl (le60.trans le71)
  have H := H.rowUp 4 rfl (le60.trans le71)
  refine WL.does kr kr (Does.call (c_frame_runner_push ({ x0 with Frame := { x0.Frame with Stack := y60.2 } }) ((f4.up le60).up le71) ((f5.up le60).up le71) [y69] f71 ((((((H.front 5 rfl).front 1 rfl).front 5 rfl).front 5 rfl).front 5 rfl).front 5 rfl) q72) kr ?_)
  rintro _ w ⟨h72, a73, c73, rfl, le72, H⟩
  obtain ⟨h71', le71', H⟩ := bk71 _ _ _ le72 H
  have H := H.rowFlat (h' := h71') 2 rfl (fun _ _ e => e)
  have H := H.rowFlat (h' := h71') 3 rfl (fun _ _ e => e)
  have H := H.rowFlat (h' := h71') 4 rfl (fun _ _ e => e)
  refine WL.fin 0 kr kr ?_
  refine WE.region ?_
  refine WL.sg 4 kr ?_
  refine WL.does kr kr (Does.loadV H 1 rfl 1 kr kr ?_)
  refine WL.sg 4 kr ?_
  refine WL.does kr kr (Does.storeE H 1 (cGrunner ({ x0 with Frame := { x0.Frame with Pc := w64 (x0.Frame.Pc + 1), Stack := y72 } }) a73 c73 a2 c2 a3 c3 a4 c4 a5 c5) rfl (q := 1) kr kr kr fun w H => ?_)
  refine WL.fin 0 kr kr ?_
  obtain rfl := Option.some.inj hr
  exact ⟨[], trivial, ⟨h71', a73, c73, a2, c2, a3, c3, a5, c5, rfl, (le60.trans le71'), ((f5.up le60).up le71'), (((((H.front 4 rfl).front 4 rfl).front 4 rfl).front 4 rfl).mid 4 3)⟩⟩
  }
  {
  refine WE.no kr (b := x0.x.Op == 3) kr t66 ?_
  refine WE.seq ?_
  refine WE.region ?_
  refine WL.fin 2 kr kr ?_
  rcases ite_cases hr with ⟨t75, hr⟩ | ⟨t75, hr⟩
  {
  refine WE.yes kr (b := x0.x.Op == 4) kr t75 ?_
  refine WE.draws mo [0, 2, 3] (ρ' := [(0, .pointer (some ⟨b_0, 0, none⟩)), (2, .slice a61 y60.1.length c61), (3, .pointer (some ⟨b65, 0, none⟩))]) kr fun w e1 e2 e3 e4 => ?_
  have H := H.same e1 e2 e3 e4
  clear e1 e2 e3 e4
  refine WD.know [0] kr ?_
  obtain ⟨⟨g0_76, g1_76⟩, hr⟩ := grd_cases hr
  obtain ⟨b76, p76, rfl⟩ := H.rowSome 5 rfl g0_76 g1_76
  refine WD.told 1 24 (.pointer (some ⟨b76, p76 + (0 : Int).toNat * 2, none⟩)) kr kr ?_
  refine WD.told 2 25 (.agg #[.int .i64 ((gd y60.1 (0 : Int)).Re), .int .i64 ((gd y60.1 (0 : Int)).Im)]) kr kr ?_
  refine WD.know [3] kr ?_
  obtain ⟨⟨g0_77, g1_77⟩, hr⟩ := grd_cases hr
  refine WD.told 4 27 (.pointer (some ⟨b76, p76 + (1 : Int).toNat * 2, none⟩)) kr kr ?_
  refine WD.told 5 28 (.agg #[.int .i64 ((gd y60.1 (1 : Int)).Re), .int .i64 ((gd y60.1 (1 : Int)).Im)]) kr kr ?_
  obtain ⟨y78, q78, hr⟩ := bind_cases hr
  refine WD.does 6 kr rfl (Floats.of [3, 0] [5, 4, 2, 1] kr (Floats.pure _ kr kr) (.cons (.tells rfl kr kr (.loadRow (v := .agg #[.int .i64 ((gd y60.1 (1 : Int)).Re), .int .i64 ((gd y60.1 (1 : Int)).Im)]) H 5 rfl g0_77 g1_77 0 2 rfl (fun _ e => by rcases e with rfl; kernel_rfl) kr)) (.cons (.tells rfl kr kr (.idx b76 (p76) y60.1.length c61 (1 : Int) 2 kr kr g0_77 g1_77 kr)) (.cons (.tells rfl kr kr (.loadRow (v := .agg #[.int .i64 ((gd y60.1 (0 : Int)).Re), .int .i64 ((gd y60.1 (0 : Int)).Im)]) H 5 rfl g0_76 g1_76 0 2 rfl (fun _ e => by rcases e with rfl; kernel_rfl) kr)) (.cons (.tells rfl kr kr (.idx b76 (p76) y60.1.length c61 (0 : Int) 2 kr kr g0_76 g1_76 kr)) .nil))))) kr kr (Does.call (c_gauss_Sub (⟨(gd y60.1 (0 : Int)).Re, (gd y60.1 (0 : Int)).Im⟩ : GValue) (⟨(gd y60.1 (1 : Int)).Re, (gd y60.1 (1 : Int)).Im⟩ : GValue) H q78) kr ?_)
  rintro _ w ⟨rfl, H⟩
  refine WD.does 7 kr rfl (Floats.of [3, 0] [4, 1] kr (Floats.pure _ kr kr) (.cons (.tells rfl kr kr (.idx b76 (p76) y60.1.length c61 (1 : Int) 2 kr kr g0_77 g1_77 kr)) (.cons (.tells rfl kr kr (.idx b76 (p76) y60.1.length c61 (0 : Int) 2 kr kr g0_76 g1_76 kr)) .nil))) kr kr (Does.storeE H 0 [.int .i64 y78.Re, .int .i64 y78.Im] rfl (q := 0) kr kr kr fun w H => ?_)
  refine WD.fin kr (Floats.of [] [] kr .nil .nil) kr kr ?_
  refine WE.seq ?_
  refine WE.region ?_
  refine WL.sg 1 kr ?_
  refine WL.does kr kr (Does.loadV H 0 rfl 0 kr kr ?_)
  refine WL.does kr kr (Does.lit (K := rGValue) (B := 16) (xs := [y78]) (e := 33) H ([.int .i64 y78.Re, .int .i64 y78.Im] ++ []) kr (Rows.cons (C := [.int .i64 y78.Re, .int .i64 y78.Im]) (x := y78) (by show _ = _; kernel_rfl) Rows.nil) kr kr kr kr fun b79 w H => ?_)
  obtain ⟨y81, q81, hr⟩ := bind_cases hr
  obtain ⟨h80, le80, f80, H, bk80⟩ := (H).rowLend (Gh.refl _)
  have H := H.rowUp 2 rfl le80
  have H := H.rowUp 3 rfl (le60.trans le80)
  have H := H.rowUp 4 rfl (le60.trans le80)
  refine WL.does kr kr (Does.call (c_frame_runner_push ({ x0 with Frame := { x0.Frame with Stack := y60.2 } }) ((f4.up le60).up le80) ((f5.up le60).up le80) [y78] f80 ((((((H.front 5 rfl).front 1 rfl).front 5 rfl).front 5 rfl).front 5 rfl).front 5 rfl) q81) kr ?_)
  rintro _ w ⟨h81, a82, c82, rfl, le81, H⟩
  obtain ⟨h80', le80', H⟩ := bk80 _ _ _ le81 H
  have H := H.rowFlat (h' := h80') 2 rfl (fun _ _ e => e)
  have H := H.rowFlat (h' := h80') 3 rfl (fun _ _ e => e)
  have H := H.rowFlat (h' := h80') 4 rfl (fun _ _ e => e)
  refine WL.fin 0 kr kr ?_
  refine WE.region ?_
  refine WL.sg 4 kr ?_
  refine WL.does kr kr (Does.loadV H 1 rfl 1 kr kr ?_)
  refine WL.sg 4 kr ?_
  refine WL.does kr kr (Does.storeE H 1 (cGrunner ({ x0 with Frame := { x0.Frame with Pc := w64 (x0.Frame.Pc + 1), Stack := y81 } }) a82 c82 a2 c2 a3 c3 a4 c4 a5 c5) rfl (q := 1) kr kr kr fun w H => ?_)
  refine WL.fin 0 kr kr ?_
  obtain rfl := Option.some.inj hr
  exact ⟨[], trivial, ⟨h80', a82, c82, a2, c2, a3, c3, a5, c5, rfl, (le60.trans le80'), ((f5.up le60).up le80'), (((((H.front 4 rfl).front 4 rfl).front 4 rfl).front 4 rfl).mid 4 3)⟩⟩
  }
  {
  refine WE.no kr (b := x0.x.Op == 4) kr t75 ?_
  refine WE.seq ?_
  refine WE.region ?_
  refine WL.fin 2 kr kr ?_
  rcases ite_cases hr with ⟨t84, hr⟩ | ⟨t84, hr⟩
  {
  refine WE.yes kr (b := x0.x.Op == 5) kr t84 ?_
  refine WE.draws mo [0, 2, 3] (ρ' := [(0, .pointer (some ⟨b_0, 0, none⟩)), (2, .slice a61 y60.1.length c61), (3, .pointer (some ⟨b65, 0, none⟩))]) kr fun w e1 e2 e3 e4 => ?_
  have H := H.same e1 e2 e3 e4
  clear e1 e2 e3 e4
  refine WD.know [0] kr ?_
  obtain ⟨⟨g0_85, g1_85⟩, hr⟩ := grd_cases hr
  obtain ⟨b85, p85, rfl⟩ := H.rowSome 5 rfl g0_85 g1_85
  refine WD.told 1 33 (.pointer (some ⟨b85, p85 + (0 : Int).toNat * 2, none⟩)) kr kr ?_
  refine WD.told 2 34 (.agg #[.int .i64 ((gd y60.1 (0 : Int)).Re), .int .i64 ((gd y60.1 (0 : Int)).Im)]) kr kr ?_
  refine WD.know [3] kr ?_
  obtain ⟨⟨g0_86, g1_86⟩, hr⟩ := grd_cases hr
  refine WD.told 4 36 (.pointer (some ⟨b85, p85 + (1 : Int).toNat * 2, none⟩)) kr kr ?_
  refine WD.told 5 37 (.agg #[.int .i64 ((gd y60.1 (1 : Int)).Re), .int .i64 ((gd y60.1 (1 : Int)).Im)]) kr kr ?_
  obtain ⟨y87, q87, hr⟩ := bind_cases hr
  refine WD.does 6 kr rfl (Floats.of [3, 0] [5, 4, 2, 1] kr (Floats.pure _ kr kr) (.cons (.tells rfl kr kr (.loadRow (v := .agg #[.int .i64 ((gd y60.1 (1 : Int)).Re), .int .i64 ((gd y60.1 (1 : Int)).Im)]) H 5 rfl g0_86 g1_86 0 2 rfl (fun _ e => by rcases e with rfl; kernel_rfl) kr)) (.cons (.tells rfl kr kr (.idx b85 (p85) y60.1.length c61 (1 : Int) 2 kr kr g0_86 g1_86 kr)) (.cons (.tells rfl kr kr (.loadRow (v := .agg #[.int .i64 ((gd y60.1 (0 : Int)).Re), .int .i64 ((gd y60.1 (0 : Int)).Im)]) H 5 rfl g0_85 g1_85 0 2 rfl (fun _ e => by rcases e with rfl; kernel_rfl) kr)) (.cons (.tells rfl kr kr (.idx b85 (p85) y60.1.length c61 (0 : Int) 2 kr kr g0_85 g1_85 kr)) .nil))))) kr kr (Does.call (c_gauss_Mul (⟨(gd y60.1 (0 : Int)).Re, (gd y60.1 (0 : Int)).Im⟩ : GValue) (⟨(gd y60.1 (1 : Int)).Re, (gd y60.1 (1 : Int)).Im⟩ : GValue) H q87) kr ?_)
  rintro _ w ⟨rfl, H⟩
  refine WD.does 7 kr rfl (Floats.of [3, 0] [4, 1] kr (Floats.pure _ kr kr) (.cons (.tells rfl kr kr (.idx b85 (p85) y60.1.length c61 (1 : Int) 2 kr kr g0_86 g1_86 kr)) (.cons (.tells rfl kr kr (.idx b85 (p85) y60.1.length c61 (0 : Int) 2 kr kr g0_85 g1_85 kr)) .nil))) kr kr (Does.storeE H 0 [.int .i64 y87.Re, .int .i64 y87.Im] rfl (q := 0) kr kr kr fun w H => ?_)
  refine WD.fin kr (Floats.of [] [] kr .nil .nil) kr kr ?_
  refine WE.seq ?_
  refine WE.region ?_
  refine WL.sg 1 kr ?_
  refine WL.does kr kr (Does.loadV H 0 rfl 0 kr kr ?_)
  refine WL.does kr kr (Does.lit (K := rGValue) (B := 16) (xs := [y87]) (e := 33) H ([.int .i64 y87.Re, .int .i64 y87.Im] ++ []) kr (Rows.cons (C := [.int .i64 y87.Re, .int .i64 y87.Im]) (x := y87) (by show _ = _; kernel_rfl) Rows.nil) kr kr kr kr fun b88 w H => ?_)
  obtain ⟨y90, q90, hr⟩ := bind_cases hr
  obtain ⟨h89, le89, f89, H, bk89⟩ := (H).rowLend (Gh.refl _)
  have H := H.rowUp 2 rfl le89
  have H := H.rowUp 3 rfl (le60.trans le89)
  have H := H.rowUp 4 rfl (le60.trans le89)
  refine WL.does kr kr (Does.call (c_frame_runner_push ({ x0 with Frame := { x0.Frame with Stack := y60.2 } }) ((f4.up le60).up le89) ((f5.up le60).up le89) [y87] f89 ((((((H.front 5 rfl).front 1 rfl).front 5 rfl).front 5 rfl).front 5 rfl).front 5 rfl) q90) kr ?_)
  rintro _ w ⟨h90, a91, c91, rfl, le90, H⟩
  obtain ⟨h89', le89', H⟩ := bk89 _ _ _ le90 H
  have H := H.rowFlat (h' := h89') 2 rfl (fun _ _ e => e)
  have H := H.rowFlat (h' := h89') 3 rfl (fun _ _ e => e)
  have H := H.rowFlat (h' := h89') 4 rfl (fun _ _ e => e)
  refine WL.fin 0 kr kr ?_
  refine WE.region ?_
  refine WL.sg 4 kr ?_
  refine WL.does kr kr (Does.loadV H 1 rfl 1 kr kr ?_)
  refine WL.sg 4 kr ?_
  refine WL.does kr kr (Does.storeE H 1 (cGrunner ({ x0 with Frame := { x0.Frame with Pc := w64 (x0.Frame.Pc + 1), Stack := y90 } }) a91 c91 a2 c2 a3 c3 a4 c4 a5 c5) rfl (q := 1) kr kr kr fun w H => ?_)
  refine WL.fin 0 kr kr ?_
  obtain rfl := Option.some.inj hr
  exact ⟨[], trivial, ⟨h89', a91, c91, a2, c2, a3, c3, a5, c5, rfl, (le60.trans le89'), ((f5.up le60).up le89'), (((((H.front 4 rfl).front 4 rfl).front 4 rfl).front 4 rfl).mid 4 3)⟩⟩
  }
  {
  refine WE.no kr (b := x0.x.Op == 5) kr t84 ?_
  refine WE.seq ?_
  refine WE.region ?_
  refine WL.fin 2 kr kr ?_
  rcases ite_cases hr with ⟨t93, hr⟩ | ⟨t93, hr⟩
  {
  refine WE.yes kr (b := x0.x.Op == 6) kr t93 ?_
  refine WE.seq ?_
  refine WE.draws mo [0, 2, 3] (ρ' := [(0, .pointer (some ⟨b_0, 0, none⟩)), (2, .slice a61 y60.1.length c61), (3, .pointer (some ⟨b65, 0, none⟩))]) kr fun w e1 e2 e3 e4 => ?_
  have H := H.same e1 e2 e3 e4
  clear e1 e2 e3 e4
  refine WD.know [0] kr ?_
  obtain ⟨⟨g0_94, g1_94⟩, hr⟩ := grd_cases hr
  obtain ⟨b94, p94, rfl⟩ := H.rowSome 5 rfl g0_94 g1_94
  refine WD.told 1 43 (.pointer (some ⟨b94, p94 + (0 : Int).toNat * 2, none⟩)) kr kr ?_
  refine WD.told 2 44 (.agg #[.int .i64 ((gd y60.1 (0 : Int)).Re), .int .i64 ((gd y60.1 (0 : Int)).Im)]) kr kr ?_
  refine WD.know [3] kr ?_
  obtain ⟨⟨g0_95, g1_95⟩, hr⟩ := grd_cases hr
  refine WD.told 4 46 (.pointer (some ⟨b94, p94 + (1 : Int).toNat * 2, none⟩)) kr kr ?_
  refine WD.told 5 47 (.agg #[.int .i64 ((gd y60.1 (1 : Int)).Re), .int .i64 ((gd y60.1 (1 : Int)).Im)]) kr kr ?_
  obtain ⟨y96, q96, hr⟩ := bind_cases hr
  refine WD.does 6 kr rfl (Floats.of [3, 0] [5, 4, 2, 1] kr (Floats.pure _ kr kr) (.cons (.tells rfl kr kr (.loadRow (v := .agg #[.int .i64 ((gd y60.1 (1 : Int)).Re), .int .i64 ((gd y60.1 (1 : Int)).Im)]) H 5 rfl g0_95 g1_95 0 2 rfl (fun _ e => by rcases e with rfl; kernel_rfl) kr)) (.cons (.tells rfl kr kr (.idx b94 (p94) y60.1.length c61 (1 : Int) 2 kr kr g0_95 g1_95 kr)) (.cons (.tells rfl kr kr (.loadRow (v := .agg #[.int .i64 ((gd y60.1 (0 : Int)).Re), .int .i64 ((gd y60.1 (0 : Int)).Im)]) H 5 rfl g0_94 g1_94 0 2 rfl (fun _ e => by rcases e with rfl; kernel_rfl) kr)) (.cons (.tells rfl kr kr (.idx b94 (p94) y60.1.length c61 (0 : Int) 2 kr kr g0_94 g1_94 kr)) .nil))))) kr kr (Does.call (c_gauss_Div K (⟨(gd y60.1 (0 : Int)).Re, (gd y60.1 (0 : Int)).Im⟩ : GValue) (⟨(gd y60.1 (1 : Int)).Re, (gd y60.1 (1 : Int)).Im⟩ : GValue) H q96) kr ?_)
  rintro _ w ⟨rfl, H⟩
  refine WD.know [7] kr ?_
  refine WD.know [8] kr ?_
  refine WD.know [9] kr ?_
  refine WD.does 10 kr rfl (Floats.of [9, 8, 7, 3, 0] [4, 1] kr (Floats.pure _ kr kr) (.cons (.tells rfl kr kr (.idx b94 (p94) y60.1.length c61 (1 : Int) 2 kr kr g0_95 g1_95 kr)) (.cons (.tells rfl kr kr (.idx b94 (p94) y60.1.length c61 (0 : Int) 2 kr kr g0_94 g1_94 kr)) .nil))) kr kr (Does.storeE H 0 [.int .i64 y96.1.Re, .int .i64 y96.1.Im] rfl (q := 0) kr kr kr fun w H => ?_)
  refine WD.does 11 kr rfl (Floats.of [9] [] kr (Floats.pure _ kr kr) .nil) kr kr (Does.reck kr ?_)
  refine WD.fin kr (Floats.of [] [] kr .nil .nil) kr kr ?_
  refine WE.seq ?_
  refine WE.region ?_
  refine WL.fin 2 kr kr ?_
  rcases ite_cases hr with ⟨t97, hr⟩ | ⟨t97, hr⟩
  {
  refine WE.yes kr (b := !y96.2) kr t97 ?_
  refine WE.seq ?_
  refine WE.region ?_
  obtain ⟨y99, q99, hr⟩ := bind_cases hr
  refine WL.sg 2 kr ?_
  have H := ((((((H.front 4 rfl).front 4 rfl).front 4 rfl).front 4 rfl).front 4 rfl).front 5 rfl)
  obtain ⟨h98, le98, f98, H, bk98⟩ := (H).rowLend (Gh.refl _)
  have H := H.rowUp 2 rfl le98
  have H := H.rowUp 3 rfl (le60.trans le98)
  have H := H.rowUp 4 rfl (le60.trans le98)
  refine WL.does kr kr (Does.call (c_frame_runner_push ({ x0 with Frame := { x0.Frame with Stack := y60.2 } }) ((f4.up le60).up le98) ((f5.up le60).up le98) y60.1 f98 ((((H.front 4 rfl).front 4 rfl).front 4 rfl).front 4 rfl) q99) kr ?_)
  rintro _ w ⟨h99, a100, c100, rfl, le99, H⟩
  obtain ⟨h98', le98', H⟩ := bk98 _ _ _ le99 H
  have H := H.rowFlat (h' := h98') 2 rfl (fun _ _ e => e)
  have H := H.rowFlat (h' := h98') 3 rfl (fun _ _ e => e)
  have H := H.rowFlat (h' := h98') 4 rfl (fun _ _ e => e)
  refine WL.fin 0 kr kr ?_
  refine WE.seq ?_
  refine WE.region ?_
  obtain ⟨y102, q102, hr⟩ := bnd_cases hr
  refine WL.sg 1 kr ?_
  refine WL.does kr kr (Does.call (c_frame_runner_trap ({ x0 with Frame := { x0.Frame with Stack := y99 } }) ((f4.up le60).up le98') ((f5.up le60).up le98') 1 ((((((H.front 5 rfl).front 1 rfl).front 5 rfl).front 5 rfl).front 5 rfl).front 5 rfl) q102) kr ?_)
  rintro _ w ⟨h102, a103, c103, rfl, le102, f103, H⟩
  refine WL.fin 0 kr kr ?_
  have H := H.rowUp 1 rfl le102
  have H := H.rowUp 2 rfl le102
  have H := H.rowUp 3 rfl le102
  obtain rfl := Option.some.inj hr
  exact WE.ret ⟨[], trivial, ⟨h102, a100, c100, a2, c2, a3, c3, a103, c103, rfl, ((le60.trans le98').trans le102), f103, (((((H.front 3 rfl).front 3 rfl).front 3 rfl).front 3 rfl).mid 4 2)⟩⟩
  }
  {
  refine WE.no kr (b := !y96.2) kr t97 ?_
  refine WE.skip ?_
  refine WE.seq ?_
  refine WE.region ?_
  refine WL.sg 1 kr ?_
  refine WL.does kr kr (Does.loadV H 0 rfl 0 kr kr ?_)
  refine WL.does kr kr (Does.lit (K := rGValue) (B := 16) (xs := [y96.1]) (e := 33) H ([.int .i64 y96.1.Re, .int .i64 y96.1.Im] ++ []) kr (Rows.cons (C := [.int .i64 y96.1.Re, .int .i64 y96.1.Im]) (x := y96.1) (by show _ = _; kernel_rfl) Rows.nil) kr kr kr kr fun b104 w H => ?_)
  obtain ⟨y106, q106, hr⟩ := bind_cases hr
  obtain ⟨h105, le105, f105, H, bk105⟩ := (H).rowLend (Gh.refl _)
  have H := H.rowUp 2 rfl le105
  have H := H.rowUp 3 rfl (le60.trans le105)
  have H := H.rowUp 4 rfl (le60.trans le105)
  refine WL.does kr kr (Does.call (c_frame_runner_push ({ x0 with Frame := { x0.Frame with Stack := y60.2 } }) ((f4.up le60).up le105) ((f5.up le60).up le105) [y96.1] f105 ((((((H.front 5 rfl).front 1 rfl).front 5 rfl).front 5 rfl).front 5 rfl).front 5 rfl) q106) kr ?_)
  rintro _ w ⟨h106, a107, c107, rfl, le106, H⟩
  obtain ⟨h105', le105', H⟩ := bk105 _ _ _ le106 H
  have H := H.rowFlat (h' := h105') 2 rfl (fun _ _ e => e)
  have H := H.rowFlat (h' := h105') 3 rfl (fun _ _ e => e)
  have H := H.rowFlat (h' := h105') 4 rfl (fun _ _ e => e)
  refine WL.fin 0 kr kr ?_
  refine WE.region ?_
  refine WL.sg 4 kr ?_
  refine WL.does kr kr (Does.loadV H 1 rfl 1 kr kr ?_)
  refine WL.sg 4 kr ?_
  refine WL.does kr kr (Does.storeE H 1 (cGrunner ({ x0 with Frame := { x0.Frame with Pc := w64 (x0.Frame.Pc + 1), Stack := y106 } }) a107 c107 a2 c2 a3 c3 a4 c4 a5 c5) rfl (q := 1) kr kr kr fun w H => ?_)
  refine WL.fin 0 kr kr ?_
  obtain rfl := Option.some.inj hr
  exact ⟨[], trivial, ⟨h105', a107, c107, a2, c2, a3, c3, a5, c5, rfl, (le60.trans le105'), ((f5.up le60).up le105'), (((((H.front 4 rfl).front 4 rfl).front 4 rfl).front 4 rfl).mid 4 3)⟩⟩
  }
  }
  {
  refine WE.no kr (b := x0.x.Op == 6) kr t93 ?_
  refine WE.skip ?_
  refine WE.seq ?_
  refine WE.region ?_
  refine WL.sg 1 kr ?_
  refine WL.does kr kr (Does.loadV H 0 rfl 0 kr kr ?_)
  refine WL.does kr kr (Does.lit (K := rGValue) (B := 16) (xs := [(⟨0, 0⟩ : GValue)]) (e := 33) H ([.int .i64 0, .int .i64 0] ++ []) kr (Rows.cons (C := [.int .i64 0, .int .i64 0]) (x := (⟨0, 0⟩ : GValue)) (by show _ = _; kernel_rfl) Rows.nil) kr kr kr kr fun b109 w H => ?_)
  obtain ⟨y111, q111, hr⟩ := bind_cases hr
  obtain ⟨h110, le110, f110, H, bk110⟩ := (H).rowLend (Gh.refl _)
  have H := H.rowUp 2 rfl le110
  have H := H.rowUp 3 rfl (le60.trans le110)
  have H := H.rowUp 4 rfl (le60.trans le110)
  refine WL.does kr kr (Does.call (c_frame_runner_push ({ x0 with Frame := { x0.Frame with Stack := y60.2 } }) ((f4.up le60).up le110) ((f5.up le60).up le110) [(⟨0, 0⟩ : GValue)] f110 ((((((H.front 5 rfl).front 1 rfl).front 5 rfl).front 5 rfl).front 5 rfl).front 5 rfl) q111) kr ?_)
  rintro _ w ⟨h111, a112, c112, rfl, le111, H⟩
  obtain ⟨h110', le110', H⟩ := bk110 _ _ _ le111 H
  have H := H.rowFlat (h' := h110') 2 rfl (fun _ _ e => e)
  have H := H.rowFlat (h' := h110') 3 rfl (fun _ _ e => e)
  have H := H.rowFlat (h' := h110') 4 rfl (fun _ _ e => e)
  refine WL.fin 0 kr kr ?_
  refine WE.region ?_
  refine WL.sg 4 kr ?_
  refine WL.does kr kr (Does.loadV H 1 rfl 1 kr kr ?_)
  refine WL.sg 4 kr ?_
  refine WL.does kr kr (Does.storeE H 1 (cGrunner ({ x0 with Frame := { x0.Frame with Pc := w64 (x0.Frame.Pc + 1), Stack := y111 } }) a112 c112 a2 c2 a3 c3 a4 c4 a5 c5) rfl (q := 1) kr kr kr fun w H => ?_)
  refine WL.fin 0 kr kr ?_
  obtain rfl := Option.some.inj hr
  exact ⟨[], trivial, ⟨h110', a112, c112, a2, c2, a3, c3, a5, c5, rfl, (le60.trans le110'), ((f5.up le60).up le110'), (((((H.front 4 rfl).front 4 rfl).front 4 rfl).front 4 rfl).mid 4 3)⟩⟩
  }
  }
  }
  }
def gauss_Conj (x0 : GValue) : Option GValue :=
  bnd (gauss_of x0) fun y3 =>
  (gauss_value (y3.1, fNeg y3.2)).bind fun y4 =>
  some y4
set_option maxRecDepth 100000 in
set_option maxHeartbeats 4000000 in
theorem c_gauss_Conj {w0 w : World} {h : Gh} {L : List Ent} (x0 : GValue) (H : St w0 h w L) {r : GValue} (hr : gauss_Conj x0 = some r) : Calls Try.prog 65 #[.agg #[.int .i64 x0.Re, .int .i64 x0.Im]] w (fun e w' => ∃ v, e = .returned v ∧ v = .agg #[.int .i64 r.Re, .int .i64 r.Im] ∧ St w0 h w' (L)) := by
  refine calls_of (args := [.agg #[.int .i64 x0.Re, .int .i64 x0.Im]]) (n := 13) (rs := [.cell 2 33]) Try.func65 rfl rfl rfl rfl rfl ?_
  unfold gauss_Conj at hr
  refine WE.seq ?_
  refine WE.region ?_
  refine WL.does kr kr (Does.box H [.int .i64 x0.Re, .int .i64 x0.Im] kr fun b1 w H => ?_)
  refine WL.does kr kr (Does.alloc H [.int .i64 0, .int .i64 0] kr fun b2 w H => ?_)
  refine WL.fin 0 kr kr ?_
  refine WE.seq ?_
  refine WE.region ?_
  refine WL.does kr kr (Does.loadV H 1 rfl 0 kr kr ?_)
  obtain ⟨y3, q3, hr⟩ := bnd_cases hr
  refine WL.does kr kr (Does.call (c_gauss_of x0 H q3) kr ?_)
  rintro _ w ⟨rfl, H⟩
  refine WL.fin 1 kr kr ?_
  refine WE.seq ?_
  refine WE.region ?_
  obtain ⟨y4, q4, hr⟩ := bind_cases hr
  refine WL.sg 6 kr ?_
  refine WL.does kr kr (Does.call (c_gauss_value (y3.1, fNeg y3.2) H q4) kr ?_)
  rintro _ w ⟨rfl, H⟩
  refine WL.does kr kr (Does.storeE H 0 [.int .i64 y4.Re, .int .i64 y4.Im] rfl (q := 0) kr kr kr fun w H => ?_)
  refine WL.fin 0 kr kr ?_
  obtain rfl := Option.some.inj hr
  exact WE.ret ⟨[.agg #[.int .i64 y4.Re, .int .i64 y4.Im]], ⟨⟨kr, ⟨b2, 0, none⟩, kr, H.loadVar 0 rfl 0 kr⟩, trivial⟩, ⟨rfl, (H.keep 2)⟩⟩
def seed_Draw (K : Nat) (x0 : Int) (x1 : Int) : Option GValue :=
  (seed_of K x0 2 x1).bind fun y2 =>
  if !y2.2 then
    some (⟨0, 0⟩ : GValue)
  else
    bnd (gauss_Of y2.1 (ishr .i64 y2.1 16)) fun y4 =>
    some y4
set_option maxRecDepth 100000 in
set_option maxHeartbeats 4000000 in
theorem c_seed_Draw {w0 w : World} {h : Gh} {L : List Ent} (K : Nat) (x0 : Int) (x1 : Int) (H : St w0 h w L) {r : GValue} (hr : seed_Draw K x0 x1 = some r) : Calls Try.prog 66 #[.int .i64 x0, .int .i64 x1] w (fun e w' => ∃ v, e = .returned v ∧ v = .agg #[.int .i64 r.Re, .int .i64 r.Im] ∧ St w0 h w' (L)) := by
  refine calls_of (args := [.int .i64 x0, .int .i64 x1]) (n := 20) (rs := [.cell 4 33]) Try.func66 rfl rfl rfl rfl rfl ?_
  unfold seed_Draw at hr
  refine WE.seq ?_
  refine WE.region ?_
  refine WL.does kr kr (Does.alloc H [.int .i64 0, .int .i64 0] kr fun b1 w H => ?_)
  refine WL.fin 0 kr kr ?_
  refine WE.seq ?_
  refine WE.region ?_
  obtain ⟨y2, q2, hr⟩ := bind_cases hr
  refine WL.sg 2 kr ?_
  refine WL.does kr kr (Does.call (c_seed_of K x0 2 x1 H q2) kr ?_)
  rintro _ w ⟨rfl, H⟩
  refine WL.fin 5 kr kr ?_
  refine WE.seq ?_
  refine WE.seq ?_
  refine WE.region ?_
  refine WL.fin 2 kr kr ?_
  rcases ite_cases hr with ⟨t3, hr⟩ | ⟨t3, hr⟩
  {
  refine WE.yes kr (b := !y2.2) kr t3 ?_
  refine WE.seq ?_
  refine WE.region ?_
  refine WL.sg 1 kr ?_
  refine WL.does kr kr (Does.storeE H 0 [.int .i64 0, .int .i64 0] rfl (q := 0) kr kr kr fun w H => ?_)
  refine WL.fin 0 kr kr ?_
  obtain rfl := Option.some.inj hr
  exact WE.ret ⟨[.agg #[.int .i64 0, .int .i64 0]], ⟨⟨kr, ⟨b1, 0, none⟩, kr, H.loadVar 0 rfl 0 kr⟩, trivial⟩, ⟨rfl, (H.keep 1)⟩⟩
  }
  {
  refine WE.no kr (b := !y2.2) kr t3 ?_
  refine WE.skip ?_
  refine WE.seq ?_
  refine WE.region ?_
  obtain ⟨y4, q4, hr⟩ := bnd_cases hr
  refine WL.sg 3 kr ?_
  refine WL.does kr kr (Does.call (c_gauss_Of y2.1 (ishr .i64 y2.1 16) H q4) kr ?_)
  rintro _ w ⟨rfl, H⟩
  refine WL.does kr kr (Does.storeE H 0 [.int .i64 y4.Re, .int .i64 y4.Im] rfl (q := 0) kr kr kr fun w H => ?_)
  refine WL.fin 0 kr kr ?_
  obtain rfl := Option.some.inj hr
  exact WE.ret ⟨[.agg #[.int .i64 y4.Re, .int .i64 y4.Im]], ⟨⟨kr, ⟨b1, 0, none⟩, kr, H.loadVar 0 rfl 0 kr⟩, trivial⟩, ⟨rfl, (H.keep 1)⟩⟩
  }
def frame_runner_plain (K : Nat) (x0 : Grunner) : Option (Int × (List GValue) × (List GValue) × (List GSlot) × Int) :=
  if x0.x.Op == 0 then
    bnd (gauss_Of x0.x.A x0.x.B) fun y80 =>
    (frame_runner_push x0 [y80]).bind fun y83 =>
    some (w64 (x0.Frame.Pc + 1), y83, x0.Frame.Locals, x0.Frame.Slots, x0.Frame.Draws)
  else
    if x0.x.Op == 1 then
      if 0 ≤ x0.x.A ∧ x0.x.A < x0.Frame.Locals.length then
        (frame_runner_push x0 [(⟨(gd x0.Frame.Locals x0.x.A).Re, (gd x0.Frame.Locals x0.x.A).Im⟩ : GValue)]).bind fun y90 =>
        some (w64 (x0.Frame.Pc + 1), y90, x0.Frame.Locals, x0.Frame.Slots, x0.Frame.Draws)
      else none
    else
      if x0.x.Op == 2 then
        (frame_runner_pop x0 1).bind fun y94 =>
        if 0 ≤ (0 : Int) ∧ (0 : Int) < y94.1.length then
          if 0 ≤ x0.x.A ∧ x0.x.A < x0.Frame.Locals.length then
            some (w64 (x0.Frame.Pc + 1), y94.2, (x0.Frame.Locals.set x0.x.A.toNat (⟨(gd y94.1 (0 : Int)).Re, (gd y94.1 (0 : Int)).Im⟩ : GValue)), x0.Frame.Slots, x0.Frame.Draws)
          else none
        else none
      else
        if x0.x.Op == 7 then
          (frame_runner_pop x0 1).bind fun y103 =>
          if 0 ≤ (0 : Int) ∧ (0 : Int) < y103.1.length then
            (gauss_Conj (⟨(gd y103.1 (0 : Int)).Re, (gd y103.1 (0 : Int)).Im⟩ : GValue)).bind fun y109 =>
            (frame_runner_push ({ x0 with Frame := { x0.Frame with Stack := y103.2 } }) [y109]).bind fun y112 =>
            some (w64 (x0.Frame.Pc + 1), y112, x0.Frame.Locals, x0.Frame.Slots, x0.Frame.Draws)
          else none
        else
          if x0.x.Op == 8 then
            (frame_runner_pop x0 1).bind fun y116 =>
            if 0 ≤ (0 : Int) ∧ (0 : Int) < y116.1.length then
              (frame_runner_push ({ x0 with Frame := { x0.Frame with Stack := y116.2 } }) [(⟨(gd y116.1 (0 : Int)).Re, (gd y116.1 (0 : Int)).Im⟩ : GValue), (⟨(gd y116.1 (0 : Int)).Re, (gd y116.1 (0 : Int)).Im⟩ : GValue)]).bind fun y125 =>
              some (w64 (x0.Frame.Pc + 1), y125, x0.Frame.Locals, x0.Frame.Slots, x0.Frame.Draws)
            else none
          else
            if x0.x.Op == 9 then
              (frame_runner_pop x0 1).bind fun y129 =>
              some (w64 (x0.Frame.Pc + 1), y129.2, x0.Frame.Locals, x0.Frame.Slots, x0.Frame.Draws)
            else
              if x0.x.Op == 10 then
                some (x0.x.A, x0.Frame.Stack, x0.Frame.Locals, x0.Frame.Slots, x0.Frame.Draws)
              else
                if x0.x.Op == 11 then
                  (frame_runner_pop x0 1).bind fun y136 =>
                  if 0 ≤ (0 : Int) ∧ (0 : Int) < y136.1.length then
                    bnd (gauss_Of ((gd y136.1 (0 : Int)).Re) ((gd y136.1 (0 : Int)).Im)) fun y143 =>
                    if (y143.Re == 0) && ((y143.Im == 0) && true) then
                      some (x0.x.A, y136.2, x0.Frame.Locals, x0.Frame.Slots, x0.Frame.Draws)
                    else
                      some (w64 (x0.Frame.Pc + 1), y136.2, x0.Frame.Locals, x0.Frame.Slots, x0.Frame.Draws)
                  else none
                else
                  if x0.x.Op == 12 then
                    (seed_Draw K x0.Frame.Seed x0.Frame.Draws).bind fun y146 =>
                    (frame_runner_push x0 [y146]).bind fun y149 =>
                    some (w64 (x0.Frame.Pc + 1), y149, x0.Frame.Locals, x0.Frame.Slots, w64 (x0.Frame.Draws + 1))
                  else
                    some (w64 (x0.Frame.Pc + 1), x0.Frame.Stack, x0.Frame.Locals, x0.Frame.Slots, x0.Frame.Draws)
set_option maxRecDepth 100000 in
set_option maxHeartbeats 4000000 in
theorem c_frame_runner_plain {w0 w : World} {h : Gh} {L : List Ent} (K : Nat) (x0 : Grunner) {a1 : Option Addr} {c1 : Nat} {a2 : Option Addr} {c2 : Nat} {a3 : Option Addr} {c3 : Nat} {a4 : Option Addr} {c4 : Nat} {a5 : Option Addr} {c5 : Nat} (f4 : Sl rGFunc 48 h a4 c4 x0.p) (f5 : Sl rGValue 16 h a5 c5 x0.act.Args) {b_0 : Nat} (H : St w0 h w (var b_0 (cGrunner x0 a1 c1 a2 c2 a3 c3 a4 c4 a5 c5) 73 :: row rGValue 16 h a1 c1 x0.Frame.Stack :: row rGValue 16 h a2 c2 x0.Frame.Locals :: row rGSlot 48 h a3 c3 x0.Frame.Slots :: L)) {r : Int × (List GValue) × (List GValue) × (List GSlot) × Int} (hr : frame_runner_plain K x0 = some r) : Calls Try.prog 35 #[.pointer (some ⟨b_0, 0, none⟩)] w (fun e w' => ∃ v, e = .returned v ∧ ∃ (h' : Gh) (a901 : Option Addr) (c901 : Nat) (a903 : Option Addr) (c903 : Nat) (a905 : Option Addr) (c905 : Nat), v = .tuple #[] ∧ h.le h' ∧ St w0 h' w' (var b_0 (cGrunner ({ x0 with Frame := { x0.Frame with Pc := r.1, Stack := r.2.1, Locals := r.2.2.1, Slots := r.2.2.2.1, Draws := r.2.2.2.2 } }) a901 c901 a903 c903 a905 c905 a4 c4 a5 c5) 73 :: row rGValue 16 h' a901 c901 r.2.1 :: row rGValue 16 h' a903 c903 r.2.2.1 :: row rGSlot 48 h' a905 c905 r.2.2.2.1 :: L)) := by
  refine calls_of (args := [.pointer (some ⟨b_0, 0, none⟩)]) (n := 146) (rs := []) Try.func35 rfl rfl rfl rfl rfl ?_
  unfold frame_runner_plain at hr
  refine WE.seq ?_
  refine WE.region ?_
  refine WL.sg 4 kr ?_
  refine WL.does kr kr (Does.loadV H 0 rfl 1 kr kr ?_)
  refine WL.fin 2 kr kr ?_
  refine WE.seq ?_
  refine WE.seq ?_
  refine WE.region ?_
  refine WL.sg 4 kr ?_
  refine WL.does kr kr (Does.loadV H 0 rfl 17 kr kr ?_)
  refine WL.fin 0 kr kr ?_
  refine WE.block ?_
  refine WE.seq ?_
  refine WE.region ?_
  refine WL.fin 2 kr kr ?_
  rcases ite_cases hr with ⟨t79, hr⟩ | ⟨t79, hr⟩
  {
  refine WE.yes kr (b := x0.x.Op == 0) kr t79 ?_
  refine WE.draws mo [0, 2] (ρ' := [(0, .pointer (some ⟨b_0, 0, none⟩)), (2, .int .i64 (w64 (x0.Frame.Pc + 1)))]) kr fun w e1 e2 e3 e4 => ?_
  have H := H.same e1 e2 e3 e4
  clear e1 e2 e3 e4
  refine WD.know [0] kr ?_
  refine WD.know [1] kr ?_
  refine WD.know [2] kr ?_
  refine WD.know [3] kr ?_
  refine WD.know [4] kr ?_
  refine WD.told 5 23 (.int .i64 x0.x.A) kr kr ?_
  refine WD.know [6] kr ?_
  refine WD.know [7] kr ?_
  refine WD.know [8] kr ?_
  refine WD.know [9] kr ?_
  refine WD.told 10 28 (.int .i64 x0.x.B) kr kr ?_
  obtain ⟨y80, q80, hr⟩ := bnd_cases hr
  refine WD.does 11 kr rfl (Floats.of [9, 8, 7, 6, 4, 3, 2, 1, 0] [10, 5] kr (Floats.pure _ kr kr) (.cons (.tells rfl kr rfl (.loadV H 0 rfl 19 kr kr)) (.cons (.tells rfl kr rfl (.loadV H 0 rfl 18 kr kr)) .nil))) kr kr (Does.call (c_gauss_Of x0.x.A x0.x.B H q80) kr ?_)
  rintro _ w ⟨rfl, H⟩
  refine WD.does 12 kr rfl (Floats.of [9, 8, 7, 6, 4, 3, 2, 1, 0] [] kr (Floats.pure _ kr kr) .nil) kr kr (Does.lit (K := rGValue) (B := 16) (xs := [y80]) (e := 33) H ([.int .i64 y80.Re, .int .i64 y80.Im] ++ []) kr (Rows.cons (C := [.int .i64 y80.Re, .int .i64 y80.Im]) (x := y80) (by show _ = _; kernel_rfl) Rows.nil) kr kr kr kr fun b81 w H => ?_)
  obtain ⟨y83, q83, hr⟩ := bind_cases hr
  refine WD.does 13 kr rfl (Floats.of [9, 8, 7, 6, 4, 3, 2, 1, 0] [] kr (Floats.pure _ kr kr) .nil) kr kr ?_
  obtain ⟨h82, le82, f82, H, bk82⟩ := (H).rowLend (Gh.refl _)
  have H := H.rowUp 1 rfl le82
  have H := H.rowUp 2 rfl le82
  have H := H.rowUp 3 rfl le82
  refine Does.call (c_frame_runner_push x0 (f4.up le82) (f5.up le82) [y80] f82 H q83) kr ?_
  rintro _ w ⟨h83, a84, c84, rfl, le83, H⟩
  obtain ⟨h82', le82', H⟩ := bk82 _ _ _ le83 H
  have H := H.rowFlat (h' := h82') 2 rfl (fun _ _ e => e)
  have H := H.rowFlat (h' := h82') 3 rfl (fun _ _ e => e)
  have H := H.rowFlat (h' := h82') 4 rfl (fun _ _ e => e)
  refine WD.fin kr (Floats.of [9, 8, 7, 6, 4, 3, 2, 1] [] kr (Floats.pure _ kr kr) .nil) kr kr ?_
  refine WE.region ?_
  refine WL.sg 5 kr ?_
  refine WL.does kr kr (Does.storeE H 1 (cGrunner ({ x0 with Frame := { x0.Frame with Pc := w64 (x0.Frame.Pc + 1), Stack := y83 } }) a84 c84 a2 c2 a3 c3 a4 c4 a5 c5) rfl (q := 1) kr kr kr fun w H => ?_)
  refine WL.fin 0 kr kr ?_
  obtain rfl := Option.some.inj hr
  exact ⟨[], trivial, ⟨h82', a84, c84, a2, c2, a3, c3, rfl, le82', (H.keep 1)⟩⟩
  }
  {
  refine WE.no kr (b := x0.x.Op == 0) kr t79 ?_
  refine WE.seq ?_
  refine WE.region ?_
  refine WL.fin 2 kr kr ?_
  rcases ite_cases hr with ⟨t86, hr⟩ | ⟨t86, hr⟩
  {
  refine WE.yes kr (b := x0.x.Op == 1) kr t86 ?_
  refine WE.draws mo [0, 2] (ρ' := [(0, .pointer (some ⟨b_0, 0, none⟩)), (2, .int .i64 (w64 (x0.Frame.Pc + 1)))]) kr fun w e1 e2 e3 e4 => ?_
  have H := H.same e1 e2 e3 e4
  clear e1 e2 e3 e4
  refine WD.know [0] kr ?_
  refine WD.know [1] kr ?_
  refine WD.know [2] kr ?_
  refine WD.know [3] kr ?_
  refine WD.know [4] kr ?_
  refine WD.told 5 39 (.slice a2 x0.Frame.Locals.length c2) kr kr ?_
  refine WD.know [6] kr ?_
  refine WD.know [7] kr ?_
  refine WD.know [8] kr ?_
  refine WD.know [9] kr ?_
  refine WD.told 10 44 (.int .i64 x0.x.A) kr kr ?_
  obtain ⟨⟨g0_87, g1_87⟩, hr⟩ := grd_cases hr
  obtain ⟨b87, p87, rfl⟩ := H.rowSome 2 rfl g0_87 g1_87
  refine WD.told 11 45 (.pointer (some ⟨b87, p87 + x0.x.A.toNat * 2, none⟩)) kr kr ?_
  refine WD.told 12 46 (.agg #[.int .i64 ((gd x0.Frame.Locals x0.x.A).Re), .int .i64 ((gd x0.Frame.Locals x0.x.A).Im)]) kr kr ?_
  refine WD.does 13 kr rfl (Floats.of [9, 8, 7, 6, 4, 3, 2, 1, 0] [12, 11, 10, 5] kr (Floats.pure _ kr kr) (.cons (.tells rfl kr kr (.loadRow (v := .agg #[.int .i64 ((gd x0.Frame.Locals x0.x.A).Re), .int .i64 ((gd x0.Frame.Locals x0.x.A).Im)]) H 2 rfl g0_87 g1_87 0 2 rfl (fun _ e => by rcases e with rfl; kernel_rfl) kr)) (.cons (.tells rfl kr kr (.idx b87 (p87) x0.Frame.Locals.length c2 x0.x.A 2 kr kr g0_87 g1_87 kr)) (.cons (.tells rfl kr rfl (.loadV H 0 rfl 18 kr kr)) (.cons (.tells rfl kr rfl (.loadV H 0 rfl 3 kr kr)) .nil))))) kr kr (Does.lit (K := rGValue) (B := 16) (xs := [(⟨(gd x0.Frame.Locals x0.x.A).Re, (gd x0.Frame.Locals x0.x.A).Im⟩ : GValue)]) (e := 33) H ([.int .i64 ((gd x0.Frame.Locals x0.x.A).Re), .int .i64 ((gd x0.Frame.Locals x0.x.A).Im)] ++ []) kr (Rows.cons (C := [.int .i64 ((gd x0.Frame.Locals x0.x.A).Re), .int .i64 ((gd x0.Frame.Locals x0.x.A).Im)]) (x := (⟨(gd x0.Frame.Locals x0.x.A).Re, (gd x0.Frame.Locals x0.x.A).Im⟩ : GValue)) (by show _ = _; kernel_rfl) Rows.nil) kr kr kr kr fun b88 w H => ?_)
  obtain ⟨y90, q90, hr⟩ := bind_cases hr
  refine WD.does 14 kr rfl (Floats.of [9, 8, 7, 6, 4, 3, 2, 1, 0] [11, 10, 5] kr (Floats.pure _ kr kr) (.cons (.tells rfl kr kr (.idx b87 (p87) x0.Frame.Locals.length c2 x0.x.A 2 kr kr g0_87 g1_87 kr)) (.cons (.tells rfl kr rfl (.loadV H 1 rfl 18 kr kr)) (.cons (.tells rfl kr rfl (.loadV H 1 rfl 3 kr kr)) .nil)))) kr kr ?_
  obtain ⟨h89, le89, f89, H, bk89⟩ := (H).rowLend (Gh.refl _)
  have H := H.rowUp 1 rfl le89
  have H := H.rowUp 2 rfl le89
  have H := H.rowUp 3 rfl le89
  refine Does.call (c_frame_runner_push x0 (f4.up le89) (f5.up le89) [(⟨(gd x0.Frame.Locals x0.x.A).Re, (gd x0.Frame.Locals x0.x.A).Im⟩ : GValue)] f89 H q90) kr ?_
  rintro _ w ⟨h90, a91, c91, rfl, le90, H⟩
  obtain ⟨h89', le89', H⟩ := bk89 _ _ _ le90 H
  have H := H.rowFlat (h' := h89') 2 rfl (fun _ _ e => e)
  have H := H.rowFlat (h' := h89') 3 rfl (fun _ _ e => e)
  have H := H.rowFlat (h' := h89') 4 rfl (fun _ _ e => e)
  refine WD.fin kr (Floats.of [9, 8, 7, 6, 4, 3, 2, 1] [11, 10, 5] kr (Floats.pure _ kr kr) (.cons (.tells rfl kr kr (.idx b87 (p87) x0.Frame.Locals.length c2 x0.x.A 2 kr kr g0_87 g1_87 kr)) (.cons (.tells rfl kr rfl (.loadV H 1 rfl 18 kr kr)) (.cons (.tells rfl kr rfl (.loadV H 1 rfl 3 kr kr)) .nil)))) kr kr ?_
  refine WE.region ?_
  refine WL.sg 5 kr ?_
  refine WL.does kr kr (Does.storeE H 1 (cGrunner ({ x0 with Frame := { x0.Frame with Pc := w64 (x0.Frame.Pc + 1), Stack := y90 } }) a91 c91 (some ⟨b87, p87, none⟩) c2 a3 c3 a4 c4 a5 c5) rfl (q := 1) kr kr kr fun w H => ?_)
  refine WL.fin 0 kr kr ?_
  obtain rfl := Option.some.inj hr
  exact ⟨[], trivial, ⟨h89', a91, c91, (some ⟨b87, p87, none⟩), c2, a3, c3, rfl, le89', (H.keep 1)⟩⟩
  }
  {
  refine WE.no kr (b := x0.x.Op == 1) kr t86 ?_
  refine WE.seq ?_
  refine WE.region ?_
  refine WL.fin 2 kr kr ?_
  rcases ite_cases hr with ⟨t93, hr⟩ | ⟨t93, hr⟩
  {
  refine WE.yes kr (b := x0.x.Op == 2) kr t93 ?_
  refine WE.draws mo [0, 2] (ρ' := [(0, .pointer (some ⟨b_0, 0, none⟩)), (2, .int .i64 (w64 (x0.Frame.Pc + 1)))]) kr fun w e1 e2 e3 e4 => ?_
  have H := H.same e1 e2 e3 e4
  clear e1 e2 e3 e4
  refine WD.know [0] kr ?_
  refine WD.know [1] kr ?_
  refine WD.know [2] kr ?_
  refine WD.know [3] kr ?_
  refine WD.told 4 55 (.slice a2 x0.Frame.Locals.length c2) kr kr ?_
  refine WD.know [5] kr ?_
  refine WD.know [6] kr ?_
  refine WD.know [7] kr ?_
  refine WD.know [8] kr ?_
  refine WD.told 9 60 (.int .i64 x0.x.A) kr kr ?_
  refine WD.know [10] kr ?_
  obtain ⟨y94, q94, hr⟩ := bind_cases hr
  refine WD.does 11 kr rfl (Floats.of [10, 8, 7, 6, 5, 3, 2, 1, 0] [9, 4] kr (Floats.pure _ kr kr) (.cons (.tells rfl kr rfl (.loadV H 0 rfl 18 kr kr)) (.cons (.tells rfl kr rfl (.loadV H 0 rfl 3 kr kr)) .nil))) kr kr (Does.call (c_frame_runner_pop x0 f4 f5 1 H q94) kr ?_)
  rintro _ w ⟨h94, a95, c95, a97, c97, rfl, le94, H⟩
  obtain ⟨⟨g0_99, g1_99⟩, hr⟩ := grd_cases hr
  obtain ⟨b99, p99, rfl⟩ := H.rowSome 4 rfl g0_99 g1_99
  refine WD.told 12 63 (.pointer (some ⟨b99, p99 + (0 : Int).toNat * 2, none⟩)) kr kr ?_
  refine WD.told 13 64 (.agg #[.int .i64 ((gd y94.1 (0 : Int)).Re), .int .i64 ((gd y94.1 (0 : Int)).Im)]) kr kr ?_
  obtain ⟨⟨g0_100, g1_100⟩, hr⟩ := grd_cases hr
  obtain ⟨b100, p100, rfl⟩ := H.rowSome 2 rfl g0_100 g1_100
  refine WD.told 14 65 (.pointer (some ⟨b100, p100 + x0.x.A.toNat * 2, none⟩)) kr kr ?_
  refine WD.does 15 kr rfl (Floats.of [8, 7, 6, 5, 3, 2, 1, 0] [14, 13, 12, 9, 4] kr (Floats.pure _ kr kr) (.cons (.tells rfl kr kr (.idx b100 (p100) x0.Frame.Locals.length c2 x0.x.A 2 kr kr g0_100 g1_100 kr)) (.cons (.tells rfl kr kr (.loadRow (v := .agg #[.int .i64 ((gd y94.1 (0 : Int)).Re), .int .i64 ((gd y94.1 (0 : Int)).Im)]) H 4 rfl g0_99 g1_99 0 2 rfl (fun _ e => by rcases e with rfl; kernel_rfl) kr)) (.cons (.tells rfl kr kr (.idx b99 (p99) y94.1.length c95 (0 : Int) 2 kr kr g0_99 g1_99 kr)) (.cons (.tells rfl kr rfl (.loadV H 0 rfl 18 kr kr)) (.cons (.tells rfl kr rfl (.loadV H 0 rfl 3 kr kr)) .nil)))))) kr kr ?_
  obtain ⟨C101, e101, _, hb101, hc101, rfl⟩ := H.rowAt2 2 rfl g0_100 g1_100
  refine Does.storeRow H 2 rfl le94 (j := x0.x.A.toNat) (by have h0 := g0_100; have h1 := g1_100; omega) hb101 hc101 0 kr kr (y' := (⟨(gd y94.1 (0 : Int)).Re, (gd y94.1 (0 : Int)).Im⟩ : GValue)) (by show _ = _; kernel_rfl) fun w H => ?_
  refine WD.spelt 55 (v := .slice (some ⟨b100, p100, none⟩) (x0.Frame.Locals.set x0.x.A.toNat (⟨(gd y94.1 (0 : Int)).Re, (gd y94.1 (0 : Int)).Im⟩ : GValue)).length c2) kr (Eq.trans (b := .slice (some ⟨b100, p100, none⟩) x0.Frame.Locals.length c2) kr (sl_len (List.length_set ..).symm)) ?_
  have H := H.recell 0 (cGrunner ({ x0 with Frame := { x0.Frame with Stack := y94.2, Locals := (x0.Frame.Locals.set x0.x.A.toNat (⟨(gd y94.1 (0 : Int)).Re, (gd y94.1 (0 : Int)).Im⟩ : GValue)) } }) a97 c97 (some ⟨b100, p100, none⟩) c2 a3 c3 a4 c4 a5 c5) rfl (by simp only [cGrunner, List.length_set, List.length_take, copied_len])
  refine WD.fin kr (Floats.of [] [] kr .nil .nil) kr kr ?_
  refine WE.region ?_
  refine WL.sg 5 kr ?_
  refine WL.does kr kr (Does.storeE H 0 (cGrunner ({ x0 with Frame := { x0.Frame with Pc := w64 (x0.Frame.Pc + 1), Stack := y94.2, Locals := (x0.Frame.Locals.set x0.x.A.toNat (⟨(gd y94.1 (0 : Int)).Re, (gd y94.1 (0 : Int)).Im⟩ : GValue)) } }) a97 c97 (some ⟨b100, p100, none⟩) c2 a3 c3 a4 c4 a5 c5) rfl (q := 1) kr kr kr fun w H => ?_)
  refine WL.fin 0 kr kr ?_
  have H := H.rowUp 3 rfl le94
  obtain rfl := Option.some.inj hr
  exact ⟨[], trivial, ⟨h94, a97, c97, (some ⟨b100, p100, none⟩), c2, a3, c3, rfl, le94, (((((H.front 3 rfl).front 3 rfl).front 3 rfl).front 3 rfl).mid 4 1)⟩⟩
  }
  {
  refine WE.no kr (b := x0.x.Op == 2) kr t93 ?_
  refine WE.seq ?_
  refine WE.region ?_
  refine WL.fin 2 kr kr ?_
  rcases ite_cases hr with ⟨t102, hr⟩ | ⟨t102, hr⟩
  {
  refine WE.yes kr (b := x0.x.Op == 7) kr t102 ?_
  refine WE.region ?_
  obtain ⟨y103, q103, hr⟩ := bind_cases hr
  refine WL.sg 2 kr ?_
  refine WL.does kr kr (Does.call (c_frame_runner_pop x0 f4 f5 1 H q103) kr ?_)
  rintro _ w ⟨h103, a104, c104, a106, c106, rfl, le103, H⟩
  obtain ⟨⟨g0_108, g1_108⟩, hr⟩ := grd_cases hr
  obtain ⟨b108, p108, rfl⟩ := H.rowSome 4 rfl g0_108 g1_108
  refine WL.does kr kr (Does.tells (.idx b108 (p108) y103.1.length c104 (0 : Int) 2 kr kr g0_108 g1_108 kr) ?_)
  refine WL.does kr kr (Does.tells (.loadRow (v := .agg #[.int .i64 ((gd y103.1 (0 : Int)).Re), .int .i64 ((gd y103.1 (0 : Int)).Im)]) H 4 rfl g0_108 g1_108 0 2 rfl (fun _ e => by rcases e with rfl; kernel_rfl) kr) ?_)
  obtain ⟨y109, q109, hr⟩ := bind_cases hr
  refine WL.does kr kr (Does.call (c_gauss_Conj (⟨(gd y103.1 (0 : Int)).Re, (gd y103.1 (0 : Int)).Im⟩ : GValue) H q109) kr ?_)
  rintro _ w ⟨rfl, H⟩
  refine WL.does kr kr (Does.lit (K := rGValue) (B := 16) (xs := [y109]) (e := 33) H ([.int .i64 y109.Re, .int .i64 y109.Im] ++ []) kr (Rows.cons (C := [.int .i64 y109.Re, .int .i64 y109.Im]) (x := y109) (by show _ = _; kernel_rfl) Rows.nil) kr kr kr kr fun b110 w H => ?_)
  obtain ⟨y112, q112, hr⟩ := bind_cases hr
  obtain ⟨h111, le111, f111, H, bk111⟩ := (H).rowLend (Gh.refl _)
  have H := H.rowUp 1 rfl le111
  have H := H.rowUp 2 rfl (le103.trans le111)
  have H := H.rowUp 3 rfl (le103.trans le111)
  refine WL.does kr kr (Does.call (c_frame_runner_push ({ x0 with Frame := { x0.Frame with Stack := y103.2 } }) ((f4.up le103).up le111) ((f5.up le103).up le111) [y109] f111 H q112) kr ?_)
  rintro _ w ⟨h112, a113, c113, rfl, le112, H⟩
  obtain ⟨h111', le111', H⟩ := bk111 _ _ _ le112 H
  have H := H.rowFlat (h' := h111') 2 rfl (fun _ _ e => e)
  have H := H.rowFlat (h' := h111') 3 rfl (fun _ _ e => e)
  have H := H.rowFlat (h' := h111') 4 rfl (fun _ _ e => e)
  refine WL.fin 0 kr kr ?_
  refine WE.region ?_
  refine WL.sg 5 kr ?_
  refine WL.does kr kr (Does.storeE H 1 (cGrunner ({ x0 with Frame := { x0.Frame with Pc := w64 (x0.Frame.Pc + 1), Stack := y112 } }) a113 c113 a2 c2 a3 c3 a4 c4 a5 c5) rfl (q := 1) kr kr kr fun w H => ?_)
  refine WL.fin 0 kr kr ?_
  obtain rfl := Option.some.inj hr
  exact ⟨[], trivial, ⟨h111', a113, c113, a2, c2, a3, c3, rfl, (le103.trans le111'), (((((H.front 4 rfl).front 4 rfl).front 4 rfl).front 4 rfl).mid 4 2)⟩⟩
  }
  {
  refine WE.no kr (b := x0.x.Op == 7) kr t102 ?_
  refine WE.seq ?_
  refine WE.region ?_
  refine WL.fin 2 kr kr ?_
  rcases ite_cases hr with ⟨t115, hr⟩ | ⟨t115, hr⟩
  {
  refine WE.yes kr (b := x0.x.Op == 8) kr t115 ?_
  refine WE.seq ?_
  refine WE.region ?_
  obtain ⟨y116, q116, hr⟩ := bind_cases hr
  refine WL.sg 1 kr ?_
  refine WL.does kr kr (Does.call (c_frame_runner_pop x0 f4 f5 1 H q116) kr ?_)
  rintro _ w ⟨h116, a117, c117, a119, c119, rfl, le116, H⟩
  obtain ⟨⟨g0_121, g1_121⟩, hr⟩ := grd_cases hr
  obtain ⟨b121, p121, rfl⟩ := H.rowSome 4 rfl g0_121 g1_121
  refine WL.does kr kr (Does.tells (.idx b121 (p121) y116.1.length c117 (0 : Int) 2 kr kr g0_121 g1_121 kr) ?_)
  refine WL.does kr kr (Does.tells (.loadRow (v := .agg #[.int .i64 ((gd y116.1 (0 : Int)).Re), .int .i64 ((gd y116.1 (0 : Int)).Im)]) H 4 rfl g0_121 g1_121 0 2 rfl (fun _ e => by rcases e with rfl; kernel_rfl) kr) ?_)
  refine WL.does kr kr (Does.alloc H [.int .i64 0, .int .i64 0] kr fun b122 w H => ?_)
  refine WL.does kr kr (Does.storeE H 0 [.int .i64 ((gd y116.1 (0 : Int)).Re), .int .i64 ((gd y116.1 (0 : Int)).Im)] rfl (q := 0) kr kr kr fun w H => ?_)
  refine WL.fin 0 kr kr ?_
  refine WE.region ?_
  refine WL.sg 1 kr ?_
  refine WL.does kr kr (Does.loadV H 0 rfl 0 kr kr ?_)
  refine WL.does kr kr (Does.loadV H 0 rfl 0 kr kr ?_)
  refine WL.does kr kr (Does.lit (K := rGValue) (B := 16) (xs := [(⟨(gd y116.1 (0 : Int)).Re, (gd y116.1 (0 : Int)).Im⟩ : GValue), (⟨(gd y116.1 (0 : Int)).Re, (gd y116.1 (0 : Int)).Im⟩ : GValue)]) (e := 33) H ([.int .i64 ((gd y116.1 (0 : Int)).Re), .int .i64 ((gd y116.1 (0 : Int)).Im)] ++ ([.int .i64 ((gd y116.1 (0 : Int)).Re), .int .i64 ((gd y116.1 (0 : Int)).Im)] ++ [])) kr (Rows.cons (C := [.int .i64 ((gd y116.1 (0 : Int)).Re), .int .i64 ((gd y116.1 (0 : Int)).Im)]) (x := (⟨(gd y116.1 (0 : Int)).Re, (gd y116.1 (0 : Int)).Im⟩ : GValue)) (by show _ = _; kernel_rfl) (Rows.cons (C := [.int .i64 ((gd y116.1 (0 : Int)).Re), .int .i64 ((gd y116.1 (0 : Int)).Im)]) (x := (⟨(gd y116.1 (0 : Int)).Re, (gd y116.1 (0 : Int)).Im⟩ : GValue)) (by show _ = _; kernel_rfl) Rows.nil)) kr kr kr kr fun b123 w H => ?_)
  obtain ⟨y125, q125, hr⟩ := bind_cases hr
  obtain ⟨h124, le124, f124, H, bk124⟩ := (H).rowLend (Gh.refl _)
  have H := H.rowUp 2 rfl le124
  have H := H.rowUp 3 rfl (le116.trans le124)
  have H := H.rowUp 4 rfl (le116.trans le124)
  refine WL.does kr kr (Does.call (c_frame_runner_push ({ x0 with Frame := { x0.Frame with Stack := y116.2 } }) ((f4.up le116).up le124) ((f5.up le116).up le124) [(⟨(gd y116.1 (0 : Int)).Re, (gd y116.1 (0 : Int)).Im⟩ : GValue), (⟨(gd y116.1 (0 : Int)).Re, (gd y116.1 (0 : Int)).Im⟩ : GValue)] f124 ((((((H.front 5 rfl).front 1 rfl).front 5 rfl).front 5 rfl).front 5 rfl).front 5 rfl) q125) kr ?_)
  rintro _ w ⟨h125, a126, c126, rfl, le125, H⟩
  obtain ⟨h124', le124', H⟩ := bk124 _ _ _ le125 H
  have H := H.rowFlat (h' := h124') 2 rfl (fun _ _ e => e)
  have H := H.rowFlat (h' := h124') 3 rfl (fun _ _ e => e)
  have H := H.rowFlat (h' := h124') 4 rfl (fun _ _ e => e)
  refine WL.fin 0 kr kr ?_
  refine WE.region ?_
  refine WL.sg 5 kr ?_
  refine WL.does kr kr (Does.storeE H 1 (cGrunner ({ x0 with Frame := { x0.Frame with Pc := w64 (x0.Frame.Pc + 1), Stack := y125 } }) a126 c126 a2 c2 a3 c3 a4 c4 a5 c5) rfl (q := 1) kr kr kr fun w H => ?_)
  refine WL.fin 0 kr kr ?_
  obtain rfl := Option.some.inj hr
  exact ⟨[], trivial, ⟨h124', a126, c126, a2, c2, a3, c3, rfl, (le116.trans le124'), (((((H.front 4 rfl).front 4 rfl).front 4 rfl).front 4 rfl).mid 4 3)⟩⟩
  }
  {
  refine WE.no kr (b := x0.x.Op == 8) kr t115 ?_
  refine WE.seq ?_
  refine WE.region ?_
  refine WL.fin 2 kr kr ?_
  rcases ite_cases hr with ⟨t128, hr⟩ | ⟨t128, hr⟩
  {
  refine WE.yes kr (b := x0.x.Op == 9) kr t128 ?_
  refine WE.region ?_
  obtain ⟨y129, q129, hr⟩ := bind_cases hr
  refine WL.sg 1 kr ?_
  refine WL.does kr kr (Does.call (c_frame_runner_pop x0 f4 f5 1 H q129) kr ?_)
  rintro _ w ⟨h129, a130, c130, a132, c132, rfl, le129, H⟩
  refine WL.fin 0 kr kr ?_
  refine WE.region ?_
  refine WL.sg 5 kr ?_
  refine WL.does kr kr (Does.storeE H 0 (cGrunner ({ x0 with Frame := { x0.Frame with Pc := w64 (x0.Frame.Pc + 1), Stack := y129.2 } }) a132 c132 a2 c2 a3 c3 a4 c4 a5 c5) rfl (q := 1) kr kr kr fun w H => ?_)
  refine WL.fin 0 kr kr ?_
  have H := H.rowUp 2 rfl le129
  have H := H.rowUp 3 rfl le129
  obtain rfl := Option.some.inj hr
  exact ⟨[], trivial, ⟨h129, a132, c132, a2, c2, a3, c3, rfl, le129, (((((H.front 3 rfl).front 3 rfl).front 3 rfl).front 3 rfl).mid 4 1)⟩⟩
  }
  {
  refine WE.no kr (b := x0.x.Op == 9) kr t128 ?_
  refine WE.seq ?_
  refine WE.region ?_
  refine WL.fin 2 kr kr ?_
  rcases ite_cases hr with ⟨t134, hr⟩ | ⟨t134, hr⟩
  {
  refine WE.yes kr (b := x0.x.Op == 10) kr t134 ?_
  refine WE.region ?_
  refine WL.sg 4 kr ?_
  refine WL.does kr kr (Does.loadV H 0 rfl 18 kr kr ?_)
  refine WL.fin 1 kr kr ?_
  refine WE.region ?_
  refine WL.sg 5 kr ?_
  refine WL.does kr kr (Does.storeE H 0 (cGrunner ({ x0 with Frame := { x0.Frame with Pc := x0.x.A } }) a1 c1 a2 c2 a3 c3 a4 c4 a5 c5) rfl (q := 1) kr kr kr fun w H => ?_)
  refine WL.fin 0 kr kr ?_
  obtain rfl := Option.some.inj hr
  exact ⟨[], trivial, ⟨h, a1, c1, a2, c2, a3, c3, rfl, (Gh.refl _), H⟩⟩
  }
  {
  refine WE.no kr (b := x0.x.Op == 10) kr t134 ?_
  refine WE.seq ?_
  refine WE.region ?_
  refine WL.fin 2 kr kr ?_
  rcases ite_cases hr with ⟨t135, hr⟩ | ⟨t135, hr⟩
  {
  refine WE.yes kr (b := x0.x.Op == 11) kr t135 ?_
  refine WE.seq ?_
  refine WE.region ?_
  obtain ⟨y136, q136, hr⟩ := bind_cases hr
  refine WL.sg 1 kr ?_
  refine WL.does kr kr (Does.call (c_frame_runner_pop x0 f4 f5 1 H q136) kr ?_)
  rintro _ w ⟨h136, a137, c137, a139, c139, rfl, le136, H⟩
  obtain ⟨⟨g0_141, g1_141⟩, hr⟩ := grd_cases hr
  obtain ⟨b141, p141, rfl⟩ := H.rowSome 4 rfl g0_141 g1_141
  refine WL.does kr kr (Does.tells (.idx b141 (p141) y136.1.length c137 (0 : Int) 2 kr kr g0_141 g1_141 kr) ?_)
  refine WL.does kr kr (Does.tells (.loadRow (v := .agg #[.int .i64 ((gd y136.1 (0 : Int)).Re), .int .i64 ((gd y136.1 (0 : Int)).Im)]) H 4 rfl g0_141 g1_141 0 2 rfl (fun _ e => by rcases e with rfl; kernel_rfl) kr) ?_)
  refine WL.does kr kr (Does.alloc H [.int .i64 0, .int .i64 0] kr fun b142 w H => ?_)
  refine WL.does kr kr (Does.storeE H 0 [.int .i64 ((gd y136.1 (0 : Int)).Re), .int .i64 ((gd y136.1 (0 : Int)).Im)] rfl (q := 0) kr kr kr fun w H => ?_)
  refine WL.fin 0 kr kr ?_
  refine WE.seq ?_
  refine WE.region ?_
  refine WL.sg 1 kr ?_
  refine WL.does kr kr (Does.loadV H 0 rfl 0 kr kr ?_)
  refine WL.sg 1 kr ?_
  refine WL.does kr kr (Does.loadV H 0 rfl 1 kr kr ?_)
  obtain ⟨y143, q143, hr⟩ := bnd_cases hr
  refine WL.does kr kr (Does.call (c_gauss_Of ((gd y136.1 (0 : Int)).Re) ((gd y136.1 (0 : Int)).Im) H q143) kr ?_)
  rintro _ w ⟨rfl, H⟩
  refine WL.sg 1 kr ?_
  refine WL.does kr kr (Does.tells (.eql ((y143.Re == 0) && ((y143.Im == 0) && true)) kr kr kr) ?_)
  refine WL.fin 0 kr kr ?_
  rcases ite_cases hr with ⟨t144, hr⟩ | ⟨t144, hr⟩
  {
  refine WE.yes kr (b := (y143.Re == 0) && ((y143.Im == 0) && true)) kr t144 ?_
  refine WE.region ?_
  refine WL.sg 4 kr ?_
  refine WL.does kr kr (Does.loadV H 1 rfl 18 kr kr ?_)
  refine WL.fin 1 kr kr ?_
  refine WE.region ?_
  refine WL.sg 5 kr ?_
  refine WL.does kr kr (Does.storeE H 1 (cGrunner ({ x0 with Frame := { x0.Frame with Pc := x0.x.A, Stack := y136.2 } }) a139 c139 a2 c2 a3 c3 a4 c4 a5 c5) rfl (q := 1) kr kr kr fun w H => ?_)
  refine WL.fin 0 kr kr ?_
  have H := H.rowUp 3 rfl le136
  have H := H.rowUp 4 rfl le136
  obtain rfl := Option.some.inj hr
  exact ⟨[], trivial, ⟨h136, a139, c139, a2, c2, a3, c3, rfl, le136, (((((H.front 4 rfl).front 4 rfl).front 4 rfl).front 4 rfl).mid 4 2)⟩⟩
  }
  {
  refine WE.no kr (b := (y143.Re == 0) && ((y143.Im == 0) && true)) kr t144 ?_
  refine WE.skip ?_
  refine WE.region ?_
  refine WL.sg 5 kr ?_
  refine WL.does kr kr (Does.storeE H 1 (cGrunner ({ x0 with Frame := { x0.Frame with Pc := w64 (x0.Frame.Pc + 1), Stack := y136.2 } }) a139 c139 a2 c2 a3 c3 a4 c4 a5 c5) rfl (q := 1) kr kr kr fun w H => ?_)
  refine WL.fin 0 kr kr ?_
  have H := H.rowUp 3 rfl le136
  have H := H.rowUp 4 rfl le136
  obtain rfl := Option.some.inj hr
  exact ⟨[], trivial, ⟨h136, a139, c139, a2, c2, a3, c3, rfl, le136, (((((H.front 4 rfl).front 4 rfl).front 4 rfl).front 4 rfl).mid 4 2)⟩⟩
  }
  }
  {
  refine WE.no kr (b := x0.x.Op == 11) kr t135 ?_
  refine WE.seq ?_
  refine WE.region ?_
  refine WL.fin 2 kr kr ?_
  rcases ite_cases hr with ⟨t145, hr⟩ | ⟨t145, hr⟩
  {
  refine WE.yes kr (b := x0.x.Op == 12) kr t145 ?_
  refine WE.seq ?_
  refine WE.draws mo [0, 2] (ρ' := [(0, .pointer (some ⟨b_0, 0, none⟩)), (2, .int .i64 (w64 (x0.Frame.Pc + 1)))]) kr fun w e1 e2 e3 e4 => ?_
  have H := H.same e1 e2 e3 e4
  clear e1 e2 e3 e4
  refine WD.know [0] kr ?_
  refine WD.know [1] kr ?_
  refine WD.know [2] kr ?_
  refine WD.know [3] kr ?_
  refine WD.know [4] kr ?_
  refine WD.told 5 123 (.int .i64 x0.Frame.Seed) kr kr ?_
  refine WD.know [6] kr ?_
  refine WD.know [7] kr ?_
  refine WD.know [8] kr ?_
  refine WD.know [9] kr ?_
  refine WD.told 10 128 (.int .i64 x0.Frame.Draws) kr kr ?_
  obtain ⟨y146, q146, hr⟩ := bind_cases hr
  refine WD.does 11 kr rfl (Floats.of [9, 8, 7, 6, 4, 3, 2, 1, 0] [10, 5] kr (Floats.pure _ kr kr) (.cons (.tells rfl kr rfl (.loadV H 0 rfl 7 kr kr)) (.cons (.tells rfl kr rfl (.loadV H 0 rfl 5 kr kr)) .nil))) kr kr (Does.call (c_seed_Draw K x0.Frame.Seed x0.Frame.Draws H q146) kr ?_)
  rintro _ w ⟨rfl, H⟩
  refine WD.does 12 kr rfl (Floats.of [9, 8, 7, 6, 4, 3, 2, 1, 0] [] kr (Floats.pure _ kr kr) .nil) kr kr (Does.lit (K := rGValue) (B := 16) (xs := [y146]) (e := 33) H ([.int .i64 y146.Re, .int .i64 y146.Im] ++ []) kr (Rows.cons (C := [.int .i64 y146.Re, .int .i64 y146.Im]) (x := y146) (by show _ = _; kernel_rfl) Rows.nil) kr kr kr kr fun b147 w H => ?_)
  obtain ⟨y149, q149, hr⟩ := bind_cases hr
  refine WD.does 13 kr rfl (Floats.of [9, 8, 7, 6, 4, 3, 2, 1, 0] [] kr (Floats.pure _ kr kr) .nil) kr kr ?_
  obtain ⟨h148, le148, f148, H, bk148⟩ := (H).rowLend (Gh.refl _)
  have H := H.rowUp 1 rfl le148
  have H := H.rowUp 2 rfl le148
  have H := H.rowUp 3 rfl le148
  refine Does.call (c_frame_runner_push x0 (f4.up le148) (f5.up le148) [y146] f148 H q149) kr ?_
  rintro _ w ⟨h149, a150, c150, rfl, le149, H⟩
  obtain ⟨h148', le148', H⟩ := bk148 _ _ _ le149 H
  have H := H.rowFlat (h' := h148') 2 rfl (fun _ _ e => e)
  have H := H.rowFlat (h' := h148') 3 rfl (fun _ _ e => e)
  have H := H.rowFlat (h' := h148') 4 rfl (fun _ _ e => e)
  refine WD.fin kr (Floats.of [9, 8, 7, 6, 4, 3, 2, 1] [] kr (Floats.pure _ kr kr) .nil) kr kr ?_
  refine WE.region ?_
  refine WL.sg 4 kr ?_
  refine WL.does kr kr (Does.loadV H 1 rfl 7 kr kr ?_)
  refine WL.sg 4 kr ?_
  refine WL.does kr kr (Does.storeE H 1 (cGrunner ({ x0 with Frame := { x0.Frame with Stack := y149, Draws := w64 (x0.Frame.Draws + 1) } }) a150 c150 a2 c2 a3 c3 a4 c4 a5 c5) rfl (q := 7) kr kr kr fun w H => ?_)
  refine WL.fin 0 kr kr ?_
  refine WE.region ?_
  refine WL.sg 5 kr ?_
  refine WL.does kr kr (Does.storeE H 1 (cGrunner ({ x0 with Frame := { x0.Frame with Pc := w64 (x0.Frame.Pc + 1), Stack := y149, Draws := w64 (x0.Frame.Draws + 1) } }) a150 c150 a2 c2 a3 c3 a4 c4 a5 c5) rfl (q := 1) kr kr kr fun w H => ?_)
  refine WL.fin 0 kr kr ?_
  obtain rfl := Option.some.inj hr
  exact ⟨[], trivial, ⟨h148', a150, c150, a2, c2, a3, c3, rfl, le148', (H.keep 1)⟩⟩
  }
  {
  refine WE.no kr (b := x0.x.Op == 12) kr t145 ?_
  refine WE.skip ?_
  refine WE.region ?_
  refine WL.sg 5 kr ?_
  refine WL.does kr kr (Does.storeE H 0 (cGrunner ({ x0 with Frame := { x0.Frame with Pc := w64 (x0.Frame.Pc + 1) } }) a1 c1 a2 c2 a3 c3 a4 c4 a5 c5) rfl (q := 1) kr kr kr fun w H => ?_)
  refine WL.fin 0 kr kr ?_
  obtain rfl := Option.some.inj hr
  exact ⟨[], trivial, ⟨h, a1, c1, a2, c2, a3, c3, rfl, (Gh.refl _), H⟩⟩
  }
  }
  }
  }
  }
  }
  }
  }
  }
def frame_Do (K : Nat) (x0 : List GFunc) (x1 : GFrame) : Option (GFrame × GAct) :=
  bnd (
      if x1.State != 0 then
        true
      else
        decide (x1.Fn < 0)) fun y127 =>
  bnd (
      if y127 then
        true
      else
        decide (x1.Fn ≥ (x0.length : Int))) fun y128 =>
  if y128 then
    some (x1, (⟨0, 0, 0, 0, []⟩ : GAct))
  else
    (frame_clone x1).bind fun y130 =>
    if 0 ≤ x1.Fn ∧ x1.Fn < x0.length then
      (frame_runner_there (⟨y130, x0, (⟨0, 0, 0⟩ : GInstr), (⟨1, 0, 0, 0, []⟩ : GAct)⟩ : Grunner) ((gd x0 x1.Fn).Code)).bind fun y140 =>
      if !y140.1 then
        bnd (frame_runner_trap (⟨y130, x0, (⟨y140.2.1, y140.2.2.1, y140.2.2.2⟩ : GInstr), (⟨1, 0, 0, 0, []⟩ : GAct)⟩ : Grunner) 4) fun y142 =>
        some ({ y130 with State := y142.1, Out := (⟨y142.2.1, (⟨y142.2.2.1, y142.2.2.2.1⟩ : GValue)⟩ : GOut) }, (⟨y142.2.2.2.2.1, y142.2.2.2.2.2.1, y142.2.2.2.2.2.2.1, y142.2.2.2.2.2.2.2.1, y142.2.2.2.2.2.2.2.2⟩ : GAct))
      else
        (frame_runner_room (⟨y130, x0, (⟨y140.2.1, y140.2.2.1, y140.2.2.2⟩ : GInstr), (⟨1, 0, 0, 0, []⟩ : GAct)⟩ : Grunner)).bind fun y147 =>
        if !y147 then
          bnd (frame_runner_trap (⟨y130, x0, (⟨y140.2.1, y140.2.2.1, y140.2.2.2⟩ : GInstr), (⟨1, 0, 0, 0, []⟩ : GAct)⟩ : Grunner) 3) fun y149 =>
          some ({ y130 with State := y149.1, Out := (⟨y149.2.1, (⟨y149.2.2.1, y149.2.2.2.1⟩ : GValue)⟩ : GOut) }, (⟨y149.2.2.2.2.1, y149.2.2.2.2.2.1, y149.2.2.2.2.2.2.1, y149.2.2.2.2.2.2.2.1, y149.2.2.2.2.2.2.2.2⟩ : GAct))
        else
          if y140.2.1 == 16 then
            bnd (frame_runner_trap (⟨y130, x0, (⟨y140.2.1, y140.2.2.1, y140.2.2.2⟩ : GInstr), (⟨1, 0, 0, 0, []⟩ : GAct)⟩ : Grunner) y140.2.2.1) fun y155 =>
            some ({ y130 with State := y155.1, Out := (⟨y155.2.1, (⟨y155.2.2.1, y155.2.2.2.1⟩ : GValue)⟩ : GOut) }, (⟨y155.2.2.2.2.1, y155.2.2.2.2.2.1, y155.2.2.2.2.2.2.1, y155.2.2.2.2.2.2.2.1, y155.2.2.2.2.2.2.2.2⟩ : GAct))
          else
            if y140.2.1 == 15 then
              (frame_runner_pop (⟨y130, x0, (⟨y140.2.1, y140.2.2.1, y140.2.2.2⟩ : GInstr), (⟨1, 0, 0, 0, []⟩ : GAct)⟩ : Grunner) 1).bind fun y161 =>
              if 0 ≤ (0 : Int) ∧ (0 : Int) < y161.1.length then
                bnd (frame_runner_end (⟨{ y130 with Stack := y161.2 }, x0, (⟨y140.2.1, y140.2.2.1, y140.2.2.2⟩ : GInstr), (⟨1, 0, 0, 0, []⟩ : GAct)⟩ : Grunner) (⟨0, (⟨(gd y161.1 (0 : Int)).Re, (gd y161.1 (0 : Int)).Im⟩ : GValue)⟩ : GOut)) fun y167 =>
                some ({ y130 with Stack := y161.2, State := y167.1, Out := (⟨y167.2.1, (⟨y167.2.2.1, y167.2.2.2.1⟩ : GValue)⟩ : GOut) }, (⟨y167.2.2.2.2.1, y167.2.2.2.2.2.1, y167.2.2.2.2.2.2.1, y167.2.2.2.2.2.2.2.1, y167.2.2.2.2.2.2.2.2⟩ : GAct))
              else none
            else
              if y140.2.1 == 13 then
                (frame_runner_spawn K (⟨y130, x0, (⟨y140.2.1, y140.2.2.1, y140.2.2.2⟩ : GInstr), (⟨1, 0, 0, 0, []⟩ : GAct)⟩ : Grunner)).bind fun y173 =>
                some ({ y130 with Pc := y173.1, Stack := y173.2.1, Slots := y173.2.2.1, Spawned := y173.2.2.2.1, State := y173.2.2.2.2.1, Out := (⟨y173.2.2.2.2.2.1, (⟨y173.2.2.2.2.2.2.1, y173.2.2.2.2.2.2.2.1⟩ : GValue)⟩ : GOut) }, (⟨y173.2.2.2.2.2.2.2.2.1, y173.2.2.2.2.2.2.2.2.2.1, y173.2.2.2.2.2.2.2.2.2.2.1, y173.2.2.2.2.2.2.2.2.2.2.2.1, y173.2.2.2.2.2.2.2.2.2.2.2.2⟩ : GAct))
              else
                if y140.2.1 == 14 then
                  (frame_runner_join (⟨y130, x0, (⟨y140.2.1, y140.2.2.1, y140.2.2.2⟩ : GInstr), (⟨1, 0, 0, 0, []⟩ : GAct)⟩ : Grunner)).bind fun y183 =>
                  some ((⟨y130.Fn, y183.1, y183.2.1, y183.2.2.1, y183.2.2.2.1, y130.Seed, y130.Spawned, y130.Draws, y183.2.2.2.2.1, y183.2.2.2.2.2.1, (⟨y183.2.2.2.2.2.2.1, (⟨y183.2.2.2.2.2.2.2.1, y183.2.2.2.2.2.2.2.2.1⟩ : GValue)⟩ : GOut), y130.Up, y130.UpSlot⟩ : GFrame), (⟨y183.2.2.2.2.2.2.2.2.2.1, y183.2.2.2.2.2.2.2.2.2.2.1, y183.2.2.2.2.2.2.2.2.2.2.2.1, y183.2.2.2.2.2.2.2.2.2.2.2.2.1, y183.2.2.2.2.2.2.2.2.2.2.2.2.2⟩ : GAct))
                else
                  if y140.2.1 == 3 then
                    if y140.2.1 == 3 then
                      (frame_runner_two K (⟨y130, x0, (⟨y140.2.1, y140.2.2.1, y140.2.2.2⟩ : GInstr), (⟨1, 0, 0, 0, []⟩ : GAct)⟩ : Grunner)).bind fun y196 =>
                      some ({ y130 with Pc := y196.1, Stack := y196.2.1, Locals := y196.2.2.1, Slots := y196.2.2.2.1, State := y196.2.2.2.2.1, Out := (⟨y196.2.2.2.2.2.1, (⟨y196.2.2.2.2.2.2.1, y196.2.2.2.2.2.2.2.1⟩ : GValue)⟩ : GOut) }, (⟨y196.2.2.2.2.2.2.2.2.1, y196.2.2.2.2.2.2.2.2.2.1, y196.2.2.2.2.2.2.2.2.2.2.1, y196.2.2.2.2.2.2.2.2.2.2.2.1, y196.2.2.2.2.2.2.2.2.2.2.2.2⟩ : GAct))
                    else
                      (frame_runner_plain K (⟨y130, x0, (⟨y140.2.1, y140.2.2.1, y140.2.2.2⟩ : GInstr), (⟨1, 0, 0, 0, []⟩ : GAct)⟩ : Grunner)).bind fun y207 =>
                      some ({ y130 with Pc := y207.1, Stack := y207.2.1, Locals := y207.2.2.1, Slots := y207.2.2.2.1, Draws := y207.2.2.2.2 }, (⟨1, 0, 0, 0, []⟩ : GAct))
                  else
                    if y140.2.1 == 4 then
                      if y140.2.1 == 4 then
                        (frame_runner_two K (⟨y130, x0, (⟨y140.2.1, y140.2.2.1, y140.2.2.2⟩ : GInstr), (⟨1, 0, 0, 0, []⟩ : GAct)⟩ : Grunner)).bind fun y219 =>
                        some ({ y130 with Pc := y219.1, Stack := y219.2.1, Locals := y219.2.2.1, Slots := y219.2.2.2.1, State := y219.2.2.2.2.1, Out := (⟨y219.2.2.2.2.2.1, (⟨y219.2.2.2.2.2.2.1, y219.2.2.2.2.2.2.2.1⟩ : GValue)⟩ : GOut) }, (⟨y219.2.2.2.2.2.2.2.2.1, y219.2.2.2.2.2.2.2.2.2.1, y219.2.2.2.2.2.2.2.2.2.2.1, y219.2.2.2.2.2.2.2.2.2.2.2.1, y219.2.2.2.2.2.2.2.2.2.2.2.2⟩ : GAct))
                      else
                        (frame_runner_plain K (⟨y130, x0, (⟨y140.2.1, y140.2.2.1, y140.2.2.2⟩ : GInstr), (⟨1, 0, 0, 0, []⟩ : GAct)⟩ : Grunner)).bind fun y230 =>
                        some ({ y130 with Pc := y230.1, Stack := y230.2.1, Locals := y230.2.2.1, Slots := y230.2.2.2.1, Draws := y230.2.2.2.2 }, (⟨1, 0, 0, 0, []⟩ : GAct))
                    else
                      if y140.2.1 == 5 then
                        if y140.2.1 == 5 then
                          (frame_runner_two K (⟨y130, x0, (⟨y140.2.1, y140.2.2.1, y140.2.2.2⟩ : GInstr), (⟨1, 0, 0, 0, []⟩ : GAct)⟩ : Grunner)).bind fun y242 =>
                          some ({ y130 with Pc := y242.1, Stack := y242.2.1, Locals := y242.2.2.1, Slots := y242.2.2.2.1, State := y242.2.2.2.2.1, Out := (⟨y242.2.2.2.2.2.1, (⟨y242.2.2.2.2.2.2.1, y242.2.2.2.2.2.2.2.1⟩ : GValue)⟩ : GOut) }, (⟨y242.2.2.2.2.2.2.2.2.1, y242.2.2.2.2.2.2.2.2.2.1, y242.2.2.2.2.2.2.2.2.2.2.1, y242.2.2.2.2.2.2.2.2.2.2.2.1, y242.2.2.2.2.2.2.2.2.2.2.2.2⟩ : GAct))
                        else
                          (frame_runner_plain K (⟨y130, x0, (⟨y140.2.1, y140.2.2.1, y140.2.2.2⟩ : GInstr), (⟨1, 0, 0, 0, []⟩ : GAct)⟩ : Grunner)).bind fun y253 =>
                          some ({ y130 with Pc := y253.1, Stack := y253.2.1, Locals := y253.2.2.1, Slots := y253.2.2.2.1, Draws := y253.2.2.2.2 }, (⟨1, 0, 0, 0, []⟩ : GAct))
                      else
                        if y140.2.1 == 6 then
                          (frame_runner_two K (⟨y130, x0, (⟨y140.2.1, y140.2.2.1, y140.2.2.2⟩ : GInstr), (⟨1, 0, 0, 0, []⟩ : GAct)⟩ : Grunner)).bind fun y264 =>
                          some ({ y130 with Pc := y264.1, Stack := y264.2.1, Locals := y264.2.2.1, Slots := y264.2.2.2.1, State := y264.2.2.2.2.1, Out := (⟨y264.2.2.2.2.2.1, (⟨y264.2.2.2.2.2.2.1, y264.2.2.2.2.2.2.2.1⟩ : GValue)⟩ : GOut) }, (⟨y264.2.2.2.2.2.2.2.2.1, y264.2.2.2.2.2.2.2.2.2.1, y264.2.2.2.2.2.2.2.2.2.2.1, y264.2.2.2.2.2.2.2.2.2.2.2.1, y264.2.2.2.2.2.2.2.2.2.2.2.2⟩ : GAct))
                        else
                          (frame_runner_plain K (⟨y130, x0, (⟨y140.2.1, y140.2.2.1, y140.2.2.2⟩ : GInstr), (⟨1, 0, 0, 0, []⟩ : GAct)⟩ : Grunner)).bind fun y275 =>
                          some ({ y130 with Pc := y275.1, Stack := y275.2.1, Locals := y275.2.2.1, Slots := y275.2.2.2.1, Draws := y275.2.2.2.2 }, (⟨1, 0, 0, 0, []⟩ : GAct))
    else none
set_option maxRecDepth 100000 in
set_option maxHeartbeats 4000000 in
theorem c_frame_Do {w0 w : World} {h : Gh} {L : List Ent} (K : Nat) (x0 : List GFunc) {a1 : Option Addr} {c1 : Nat} (f1 : Sl rGFunc 48 h a1 c1 x0) (x1 : GFrame) {a2 : Option Addr} {c2 : Nat} {a3 : Option Addr} {c3 : Nat} {a4 : Option Addr} {c4 : Nat} (f2 : Sl rGValue 16 h a2 c2 x1.Stack) (f3 : Sl rGValue 16 h a3 c3 x1.Locals) (f4 : Sl rGSlot 48 h a4 c4 x1.Slots) (H : St w0 h w L) {r : GFrame × GAct} (hr : frame_Do K x0 x1 = some r) : Calls Try.prog 12 #[.slice a1 x0.length c1, .agg (cGFrame x1 a2 c2 a3 c3 a4 c4).toArray] w (fun e w' => ∃ v, e = .returned v ∧ ∃ (h' : Gh) (a901 : Option Addr) (c901 : Nat) (a902 : Option Addr) (c902 : Nat) (a903 : Option Addr) (c903 : Nat) (a904 : Option Addr) (c904 : Nat), v = .tuple #[.agg (cGFrame r.1 a901 c901 a902 c902 a903 c903).toArray, .agg (cGAct r.2 a904 c904).toArray] ∧ h.le h' ∧ Sl rGValue 16 h' a901 c901 r.1.Stack ∧ Sl rGValue 16 h' a902 c902 r.1.Locals ∧ Sl rGSlot 48 h' a903 c903 r.1.Slots ∧ Sl rGValue 16 h' a904 c904 r.2.Args ∧ St w0 h' w' (L)) := by
  refine calls_of (args := [.slice a1 x0.length c1, .agg (cGFrame x1 a2 c2 a3 c3 a4 c4).toArray]) (n := 96) (rs := [.cell 4 40, .cell 5 50]) Try.func12 rfl rfl rfl rfl rfl ?_
  unfold frame_Do at hr
  refine WE.seq ?_
  refine WE.region ?_
  refine WL.does kr kr (Does.box H (cGFrame x1 a2 c2 a3 c3 a4 c4) kr fun b124 w H => ?_)
  refine WL.does kr kr (Does.alloc H (cGFrame (⟨0, 0, [], [], [], 0, 0, 0, 0, 0, (⟨0, (⟨0, 0⟩ : GValue)⟩ : GOut), (⟨0, 0⟩ : GRef), 0⟩ : GFrame) none 0 none 0 none 0) kr fun b125 w H => ?_)
  refine WL.does kr kr (Does.alloc H (cGAct (⟨0, 0, 0, 0, []⟩ : GAct) none 0) kr fun b126 w H => ?_)
  refine WL.fin 0 kr kr ?_
  refine WE.scope 0 rfl ?_
  refine WE.seq ?_
  refine WE.seq ?_
  refine WE.region ?_
  refine WL.sg 1 kr ?_
  refine WL.does kr kr (Does.loadV H 2 rfl 8 kr kr ?_)
  refine WL.sg 2 kr ?_
  obtain ⟨y127, hy127, hr⟩ := bnd_cases hr
  refine WL.join 4 (fun (_ : Unit) => [(0, .slice a1 x0.length c1), (3, .pointer (some ⟨b124, 0, none⟩)), (4, .pointer (some ⟨b125, 0, none⟩)), (5, .pointer (some ⟨b126, 0, none⟩)), (14, .bool y127)]) (fun (_ : Unit) w => St w0 h w (var b126 (cGAct (⟨0, 0, 0, 0, []⟩ : GAct) none 0) 50 :: var b125 (cGFrame (⟨0, 0, [], [], [], 0, 0, 0, 0, 0, (⟨0, (⟨0, 0⟩ : GValue)⟩ : GOut), (⟨0, 0⟩ : GRef), 0⟩ : GFrame) none 0 none 0 none 0) 40 :: var b124 (cGFrame x1 a2 c2 a3 c3 a4 c4) 40 :: L)) ?_ (fun hk_y127 => ?_)
  {
  rintro _ w H
  refine WL.sg 1 kr ?_
  obtain ⟨y128, hy128, hr⟩ := bnd_cases hr
  refine WL.join 6 (fun (_ : Unit) => [(0, .slice a1 x0.length c1), (3, .pointer (some ⟨b124, 0, none⟩)), (4, .pointer (some ⟨b125, 0, none⟩)), (5, .pointer (some ⟨b126, 0, none⟩)), (21, .bool y128)]) (fun (_ : Unit) w => St w0 h w (var b126 (cGAct (⟨0, 0, 0, 0, []⟩ : GAct) none 0) 50 :: var b125 (cGFrame (⟨0, 0, [], [], [], 0, 0, 0, 0, 0, (⟨0, (⟨0, 0⟩ : GValue)⟩ : GOut), (⟨0, 0⟩ : GRef), 0⟩ : GFrame) none 0 none 0 none 0) 40 :: var b124 (cGFrame x1 a2 c2 a3 c3 a4 c4) 40 :: L)) ?_ (fun hk_y128 => ?_)
  {
  rintro _ w H
  refine WL.fin 0 kr kr ?_
  rcases ite_cases hr with ⟨t129, hr⟩ | ⟨t129, hr⟩
  {
  refine WE.yes kr (b := y128) kr t129 ?_
  refine WE.seq ?_
  refine WE.region ?_
  refine WL.does kr kr (Does.loadV H 2 rfl 0 kr kr ?_)
  refine WL.sg 1 kr ?_
  refine WL.does kr kr (Does.storeE H 1 (cGFrame x1 a2 c2 a3 c3 a4 c4) rfl (q := 0) kr kr kr fun w H => ?_)
  refine WL.does kr kr (Does.storeE H 0 (cGAct (⟨0, 0, 0, 0, []⟩ : GAct) none 0) rfl (q := 0) kr kr kr fun w H => ?_)
  refine WL.fin 0 kr kr ?_
  obtain rfl := Option.some.inj hr
  exact WE.ret ⟨[.agg (cGFrame x1 a2 c2 a3 c3 a4 c4).toArray, .agg (cGAct (⟨0, 0, 0, 0, []⟩ : GAct) none 0).toArray], ⟨⟨kr, ⟨b125, 0, none⟩, kr, H.loadVar 1 rfl 0 kr⟩, ⟨kr, ⟨b126, 0, none⟩, kr, H.loadVar 0 rfl 0 kr⟩, trivial⟩, ⟨h, a2, c2, a3, c3, a4, c4, none, 0, rfl, (Gh.refl _), f2, f3, f4, (Sl.nil _ _ (Nat.zero_le _)), (H.keep 3)⟩⟩
  }
  {
  refine WE.no kr (b := y128) kr t129 ?_
  refine WE.skip ?_
  refine WE.seq ?_
  refine WE.region ?_
  refine WL.does kr kr (Does.loadV H 2 rfl 0 kr kr ?_)
  obtain ⟨y130, q130, hr⟩ := bind_cases hr
  refine WL.does kr kr (Does.call (c_frame_clone x1 f2 f3 f4 H q130) kr ?_)
  rintro _ w ⟨h130, a131, c131, a132, c132, a133, c133, rfl, le130, H⟩
  refine WL.sg 3 kr ?_
  refine WL.does kr kr (Does.box H (cGrunner (⟨y130, x0, (⟨0, 0, 0⟩ : GInstr), (⟨1, 0, 0, 0, []⟩ : GAct)⟩ : Grunner) a131 c131 a132 c132 a133 c133 a1 c1 none 0) kr fun b137 w H => ?_)
  refine WL.fin 1 kr kr ?_
  refine WE.seq ?_
  refine WE.block ?_
  refine WE.seq ?_
  refine WE.region ?_
  refine WL.sg 3 kr ?_
  refine WL.does kr kr (Does.loadV H 6 rfl 0 kr kr ?_)
  obtain ⟨⟨g0_138, g1_138⟩, hr⟩ := grd_cases hr
  obtain ⟨b138, p138, C138, e138, fr138, cs138, rfl, hb138, hc138, ⟨a139, c139, rfl, f139⟩⟩ := (f1.up le130).at g0_138 g1_138
  refine WL.does kr kr (Does.tells (.idx b138 (p138) x0.length c1 x1.Fn 4 kr kr g0_138 g1_138 kr) ?_)
  refine WL.sg 1 kr ?_
  refine WL.does kr kr (Does.loadR H hb138 hc138 3 kr kr ?_)
  obtain ⟨y140, q140, hr⟩ := bind_cases hr
  refine WL.does kr kr (Does.call (c_frame_runner_there (⟨y130, x0, (⟨0, 0, 0⟩ : GInstr), (⟨1, 0, 0, 0, []⟩ : GAct)⟩ : Grunner) (f1.up le130) (Sl.nil none 0 (Nat.zero_le _)) ((gd x0 x1.Fn).Code) f139 H q140) kr ?_)
  rintro _ w ⟨rfl, H⟩
  refine WL.fin 2 kr kr ?_
  rcases ite_cases hr with ⟨t141, hr⟩ | ⟨t141, hr⟩
  {
  refine WE.yes kr (b := !y140.1) kr t141 ?_
  refine WE.seq ?_
  refine WE.region ?_
  obtain ⟨y142, q142, hr⟩ := bnd_cases hr
  refine WL.sg 1 kr ?_
  refine WL.does kr kr (Does.call (c_frame_runner_trap (⟨y130, x0, (⟨y140.2.1, y140.2.2.1, y140.2.2.2⟩ : GInstr), (⟨1, 0, 0, 0, []⟩ : GAct)⟩ : Grunner) (f1.up le130) (Sl.nil none 0 (Nat.zero_le _)) 4 H q142) kr ?_)
  rintro _ w ⟨h142, a143, c143, rfl, le142, f143, H⟩
  refine WL.fin 0 kr kr ?_
  refine WE.goto ?_
  refine ⟨rfl, ?_⟩
  refine WE.seq ?_
  refine WE.skip ?_
  refine WE.seq ?_
  refine WE.draws mo [4, 5, 6] (ρ' := [(4, .pointer (some ⟨b125, 0, none⟩)), (5, .pointer (some ⟨b126, 0, none⟩)), (6, .pointer (some ⟨b137, 0, none⟩))]) kr fun w e1 e2 e3 e4 => ?_
  have H := H.same e1 e2 e3 e4
  clear e1 e2 e3 e4
  refine WD.know [0] kr ?_
  refine WD.know [1] kr ?_
  refine WD.know [2] kr ?_
  refine WD.told 3 91 (.agg (cGFrame ({ y130 with State := y142.1, Out := (⟨y142.2.1, (⟨y142.2.2.1, y142.2.2.2.1⟩ : GValue)⟩ : GOut) }) a131 c131 a132 c132 a133 c133).toArray) kr kr ?_
  refine WD.know [4] kr ?_
  refine WD.know [5] kr ?_
  refine WD.know [6] kr ?_
  refine WD.told 7 95 (.agg (cGAct (⟨y142.2.2.2.2.1, y142.2.2.2.2.2.1, y142.2.2.2.2.2.2.1, y142.2.2.2.2.2.2.2.1, y142.2.2.2.2.2.2.2.2⟩ : GAct) a143 c143).toArray) kr kr ?_
  refine WD.does 8 kr rfl (Floats.of [6, 5, 4, 2, 1, 0] [7, 3] kr (Floats.pure _ kr kr) (.cons (.tells rfl kr rfl (.loadV H 0 rfl 20 kr kr)) (.cons (.tells rfl kr rfl (.loadV H 0 rfl 0 kr kr)) .nil))) kr kr (Does.storeE H 5 (cGFrame ({ y130 with State := y142.1, Out := (⟨y142.2.1, (⟨y142.2.2.1, y142.2.2.2.1⟩ : GValue)⟩ : GOut) }) a131 c131 a132 c132 a133 c133) rfl (q := 0) kr kr kr fun w H => ?_)
  refine WD.does 9 kr rfl (Floats.of [6, 5, 4] [7] kr (Floats.pure _ kr kr) (.cons (.tells rfl kr rfl (.loadV H 0 rfl 20 kr kr)) .nil)) kr kr (Does.storeE H 4 (cGAct (⟨y142.2.2.2.2.1, y142.2.2.2.2.2.1, y142.2.2.2.2.2.2.1, y142.2.2.2.2.2.2.2.1, y142.2.2.2.2.2.2.2.2⟩ : GAct) a143 c143) rfl (q := 0) kr kr kr fun w H => ?_)
  refine WD.fin kr (Floats.of [] [] kr .nil .nil) kr kr ?_
  obtain ⟨h144, le144, f144, H⟩ := (H.front 1 rfl).rowFreeze le142
  obtain ⟨h145, le145, f145, H⟩ := (H.front 1 rfl).rowFreeze (le142.trans le144)
  obtain ⟨h146, le146, f146, H⟩ := (H.front 1 rfl).rowFreeze ((le142.trans le144).trans le145)
  obtain rfl := Option.some.inj hr
  exact WE.ret ⟨[.agg (cGFrame ({ y130 with State := y142.1, Out := (⟨y142.2.1, (⟨y142.2.2.1, y142.2.2.2.1⟩ : GValue)⟩ : GOut) }) a131 c131 a132 c132 a133 c133).toArray, .agg (cGAct (⟨y142.2.2.2.2.1, y142.2.2.2.2.2.1, y142.2.2.2.2.2.2.1, y142.2.2.2.2.2.2.2.1, y142.2.2.2.2.2.2.2.2⟩ : GAct) a143 c143).toArray], ⟨⟨kr, ⟨b125, 0, none⟩, kr, H.loadVar 2 rfl 0 kr⟩, ⟨kr, ⟨b126, 0, none⟩, kr, H.loadVar 1 rfl 0 kr⟩, trivial⟩, ⟨h146, a131, c131, a132, c132, a133, c133, a143, c143, rfl, ((((le130.trans le142).trans le144).trans le145).trans le146), ((f144.up le145).up le146), (f145.up le146), f146, (((f143.up le144).up le145).up le146), (H.keep 4)⟩⟩
  }
  {
  refine WE.no kr (b := !y140.1) kr t141 ?_
  refine WE.seq ?_
  refine WE.region ?_
  obtain ⟨y147, q147, hr⟩ := bind_cases hr
  refine WL.sg 1 kr ?_
  refine WL.does kr kr (Does.call (c_frame_runner_room (⟨y130, x0, (⟨y140.2.1, y140.2.2.1, y140.2.2.2⟩ : GInstr), (⟨1, 0, 0, 0, []⟩ : GAct)⟩ : Grunner) (f1.up le130) (Sl.nil none 0 (Nat.zero_le _)) H q147) kr ?_)
  rintro _ w ⟨rfl, H⟩
  refine WL.fin 2 kr kr ?_
  rcases ite_cases hr with ⟨t148, hr⟩ | ⟨t148, hr⟩
  {
  refine WE.yes kr (b := !y147) kr t148 ?_
  refine WE.seq ?_
  refine WE.region ?_
  obtain ⟨y149, q149, hr⟩ := bnd_cases hr
  refine WL.sg 1 kr ?_
  refine WL.does kr kr (Does.call (c_frame_runner_trap (⟨y130, x0, (⟨y140.2.1, y140.2.2.1, y140.2.2.2⟩ : GInstr), (⟨1, 0, 0, 0, []⟩ : GAct)⟩ : Grunner) (f1.up le130) (Sl.nil none 0 (Nat.zero_le _)) 3 H q149) kr ?_)
  rintro _ w ⟨h149, a150, c150, rfl, le149, f150, H⟩
  refine WL.fin 0 kr kr ?_
  refine WE.goto ?_
  refine ⟨rfl, ?_⟩
  refine WE.seq ?_
  refine WE.skip ?_
  refine WE.seq ?_
  refine WE.draws mo [4, 5, 6] (ρ' := [(4, .pointer (some ⟨b125, 0, none⟩)), (5, .pointer (some ⟨b126, 0, none⟩)), (6, .pointer (some ⟨b137, 0, none⟩))]) kr fun w e1 e2 e3 e4 => ?_
  have H := H.same e1 e2 e3 e4
  clear e1 e2 e3 e4
  refine WD.know [0] kr ?_
  refine WD.know [1] kr ?_
  refine WD.know [2] kr ?_
  refine WD.told 3 91 (.agg (cGFrame ({ y130 with State := y149.1, Out := (⟨y149.2.1, (⟨y149.2.2.1, y149.2.2.2.1⟩ : GValue)⟩ : GOut) }) a131 c131 a132 c132 a133 c133).toArray) kr kr ?_
  refine WD.know [4] kr ?_
  refine WD.know [5] kr ?_
  refine WD.know [6] kr ?_
  refine WD.told 7 95 (.agg (cGAct (⟨y149.2.2.2.2.1, y149.2.2.2.2.2.1, y149.2.2.2.2.2.2.1, y149.2.2.2.2.2.2.2.1, y149.2.2.2.2.2.2.2.2⟩ : GAct) a150 c150).toArray) kr kr ?_
  refine WD.does 8 kr rfl (Floats.of [6, 5, 4, 2, 1, 0] [7, 3] kr (Floats.pure _ kr kr) (.cons (.tells rfl kr rfl (.loadV H 0 rfl 20 kr kr)) (.cons (.tells rfl kr rfl (.loadV H 0 rfl 0 kr kr)) .nil))) kr kr (Does.storeE H 5 (cGFrame ({ y130 with State := y149.1, Out := (⟨y149.2.1, (⟨y149.2.2.1, y149.2.2.2.1⟩ : GValue)⟩ : GOut) }) a131 c131 a132 c132 a133 c133) rfl (q := 0) kr kr kr fun w H => ?_)
  refine WD.does 9 kr rfl (Floats.of [6, 5, 4] [7] kr (Floats.pure _ kr kr) (.cons (.tells rfl kr rfl (.loadV H 0 rfl 20 kr kr)) .nil)) kr kr (Does.storeE H 4 (cGAct (⟨y149.2.2.2.2.1, y149.2.2.2.2.2.1, y149.2.2.2.2.2.2.1, y149.2.2.2.2.2.2.2.1, y149.2.2.2.2.2.2.2.2⟩ : GAct) a150 c150) rfl (q := 0) kr kr kr fun w H => ?_)
  refine WD.fin kr (Floats.of [] [] kr .nil .nil) kr kr ?_
  obtain ⟨h151, le151, f151, H⟩ := (H.front 1 rfl).rowFreeze le149
  obtain ⟨h152, le152, f152, H⟩ := (H.front 1 rfl).rowFreeze (le149.trans le151)
  obtain ⟨h153, le153, f153, H⟩ := (H.front 1 rfl).rowFreeze ((le149.trans le151).trans le152)
  obtain rfl := Option.some.inj hr
  exact WE.ret ⟨[.agg (cGFrame ({ y130 with State := y149.1, Out := (⟨y149.2.1, (⟨y149.2.2.1, y149.2.2.2.1⟩ : GValue)⟩ : GOut) }) a131 c131 a132 c132 a133 c133).toArray, .agg (cGAct (⟨y149.2.2.2.2.1, y149.2.2.2.2.2.1, y149.2.2.2.2.2.2.1, y149.2.2.2.2.2.2.2.1, y149.2.2.2.2.2.2.2.2⟩ : GAct) a150 c150).toArray], ⟨⟨kr, ⟨b125, 0, none⟩, kr, H.loadVar 2 rfl 0 kr⟩, ⟨kr, ⟨b126, 0, none⟩, kr, H.loadVar 1 rfl 0 kr⟩, trivial⟩, ⟨h153, a131, c131, a132, c132, a133, c133, a150, c150, rfl, ((((le130.trans le149).trans le151).trans le152).trans le153), ((f151.up le152).up le153), (f152.up le153), f153, (((f150.up le151).up le152).up le153), (H.keep 4)⟩⟩
  }
  {
  refine WE.no kr (b := !y147) kr t148 ?_
  refine WE.skip ?_
  refine WE.seq ?_
  refine WE.seq ?_
  refine WE.region ?_
  refine WL.sg 4 kr ?_
  refine WL.does kr kr (Does.loadV H 0 rfl 17 kr kr ?_)
  refine WL.fin 0 kr kr ?_
  refine WE.block ?_
  refine WE.seq ?_
  refine WE.region ?_
  refine WL.fin 2 kr kr ?_
  rcases ite_cases hr with ⟨t154, hr⟩ | ⟨t154, hr⟩
  {
  refine WE.yes kr (b := y140.2.1 == 16) kr t154 ?_
  refine WE.region ?_
  refine WL.sg 5 kr ?_
  refine WL.does kr kr (Does.loadV H 0 rfl 18 kr kr ?_)
  obtain ⟨y155, q155, hr⟩ := bnd_cases hr
  refine WL.does kr kr (Does.call (c_frame_runner_trap (⟨y130, x0, (⟨y140.2.1, y140.2.2.1, y140.2.2.2⟩ : GInstr), (⟨1, 0, 0, 0, []⟩ : GAct)⟩ : Grunner) (f1.up le130) (Sl.nil none 0 (Nat.zero_le _)) y140.2.2.1 H q155) kr ?_)
  rintro _ w ⟨h155, a156, c156, rfl, le155, f156, H⟩
  refine WL.fin 0 kr kr ?_
  refine WE.seq ?_
  refine WE.label ?_
  refine WE.seq ?_
  refine WE.draws mo [4, 5, 6] (ρ' := [(4, .pointer (some ⟨b125, 0, none⟩)), (5, .pointer (some ⟨b126, 0, none⟩)), (6, .pointer (some ⟨b137, 0, none⟩))]) kr fun w e1 e2 e3 e4 => ?_
  have H := H.same e1 e2 e3 e4
  clear e1 e2 e3 e4
  refine WD.know [0] kr ?_
  refine WD.know [1] kr ?_
  refine WD.know [2] kr ?_
  refine WD.told 3 91 (.agg (cGFrame ({ y130 with State := y155.1, Out := (⟨y155.2.1, (⟨y155.2.2.1, y155.2.2.2.1⟩ : GValue)⟩ : GOut) }) a131 c131 a132 c132 a133 c133).toArray) kr kr ?_
  refine WD.know [4] kr ?_
  refine WD.know [5] kr ?_
  refine WD.know [6] kr ?_
  refine WD.told 7 95 (.agg (cGAct (⟨y155.2.2.2.2.1, y155.2.2.2.2.2.1, y155.2.2.2.2.2.2.1, y155.2.2.2.2.2.2.2.1, y155.2.2.2.2.2.2.2.2⟩ : GAct) a156 c156).toArray) kr kr ?_
  refine WD.does 8 kr rfl (Floats.of [6, 5, 4, 2, 1, 0] [7, 3] kr (Floats.pure _ kr kr) (.cons (.tells rfl kr rfl (.loadV H 0 rfl 20 kr kr)) (.cons (.tells rfl kr rfl (.loadV H 0 rfl 0 kr kr)) .nil))) kr kr (Does.storeE H 5 (cGFrame ({ y130 with State := y155.1, Out := (⟨y155.2.1, (⟨y155.2.2.1, y155.2.2.2.1⟩ : GValue)⟩ : GOut) }) a131 c131 a132 c132 a133 c133) rfl (q := 0) kr kr kr fun w H => ?_)
  refine WD.does 9 kr rfl (Floats.of [6, 5, 4] [7] kr (Floats.pure _ kr kr) (.cons (.tells rfl kr rfl (.loadV H 0 rfl 20 kr kr)) .nil)) kr kr (Does.storeE H 4 (cGAct (⟨y155.2.2.2.2.1, y155.2.2.2.2.2.1, y155.2.2.2.2.2.2.1, y155.2.2.2.2.2.2.2.1, y155.2.2.2.2.2.2.2.2⟩ : GAct) a156 c156) rfl (q := 0) kr kr kr fun w H => ?_)
  refine WD.fin kr (Floats.of [] [] kr .nil .nil) kr kr ?_
  obtain ⟨h157, le157, f157, H⟩ := (H.front 1 rfl).rowFreeze le155
  obtain ⟨h158, le158, f158, H⟩ := (H.front 1 rfl).rowFreeze (le155.trans le157)
  obtain ⟨h159, le159, f159, H⟩ := (H.front 1 rfl).rowFreeze ((le155.trans le157).trans le158)
  obtain rfl := Option.some.inj hr
  exact WE.ret ⟨[.agg (cGFrame ({ y130 with State := y155.1, Out := (⟨y155.2.1, (⟨y155.2.2.1, y155.2.2.2.1⟩ : GValue)⟩ : GOut) }) a131 c131 a132 c132 a133 c133).toArray, .agg (cGAct (⟨y155.2.2.2.2.1, y155.2.2.2.2.2.1, y155.2.2.2.2.2.2.1, y155.2.2.2.2.2.2.2.1, y155.2.2.2.2.2.2.2.2⟩ : GAct) a156 c156).toArray], ⟨⟨kr, ⟨b125, 0, none⟩, kr, H.loadVar 2 rfl 0 kr⟩, ⟨kr, ⟨b126, 0, none⟩, kr, H.loadVar 1 rfl 0 kr⟩, trivial⟩, ⟨h159, a131, c131, a132, c132, a133, c133, a156, c156, rfl, ((((le130.trans le155).trans le157).trans le158).trans le159), ((f157.up le158).up le159), (f158.up le159), f159, (((f156.up le157).up le158).up le159), (H.keep 4)⟩⟩
  }
  {
  refine WE.no kr (b := y140.2.1 == 16) kr t154 ?_
  refine WE.seq ?_
  refine WE.region ?_
  refine WL.fin 2 kr kr ?_
  rcases ite_cases hr with ⟨t160, hr⟩ | ⟨t160, hr⟩
  {
  refine WE.yes kr (b := y140.2.1 == 15) kr t160 ?_
  refine WE.region ?_
  obtain ⟨y161, q161, hr⟩ := bind_cases hr
  refine WL.sg 2 kr ?_
  refine WL.does kr kr (Does.call (c_frame_runner_pop (⟨y130, x0, (⟨y140.2.1, y140.2.2.1, y140.2.2.2⟩ : GInstr), (⟨1, 0, 0, 0, []⟩ : GAct)⟩ : Grunner) (f1.up le130) (Sl.nil none 0 (Nat.zero_le _)) 1 H q161) kr ?_)
  rintro _ w ⟨h161, a162, c162, a164, c164, rfl, le161, H⟩
  obtain ⟨⟨g0_166, g1_166⟩, hr⟩ := grd_cases hr
  obtain ⟨b166, p166, rfl⟩ := H.rowSome 4 rfl g0_166 g1_166
  refine WL.does kr kr (Does.tells (.idx b166 (p166) y161.1.length c162 (0 : Int) 2 kr kr g0_166 g1_166 kr) ?_)
  refine WL.does kr kr (Does.tells (.loadRow (v := .agg #[.int .i64 ((gd y161.1 (0 : Int)).Re), .int .i64 ((gd y161.1 (0 : Int)).Im)]) H 4 rfl g0_166 g1_166 0 2 rfl (fun _ e => by rcases e with rfl; kernel_rfl) kr) ?_)
  obtain ⟨y167, q167, hr⟩ := bnd_cases hr
  refine WL.sg 1 kr ?_
  have H := H.rowUp 2 rfl le161
  have H := H.rowUp 3 rfl le161
  refine WL.does kr kr (Does.call (c_frame_runner_end (⟨{ y130 with Stack := y161.2 }, x0, (⟨y140.2.1, y140.2.2.1, y140.2.2.2⟩ : GInstr), (⟨1, 0, 0, 0, []⟩ : GAct)⟩ : Grunner) ((f1.up le130).up le161) (Sl.nil none 0 (Nat.zero_le _)) (⟨0, (⟨(gd y161.1 (0 : Int)).Re, (gd y161.1 (0 : Int)).Im⟩ : GValue)⟩ : GOut) H q167) kr ?_)
  rintro _ w ⟨h167, a168, c168, rfl, le167, f168, H⟩
  refine WL.fin 0 kr kr ?_
  refine WE.seq ?_
  refine WE.label ?_
  refine WE.seq ?_
  refine WE.draws mo [4, 5, 6] (ρ' := [(4, .pointer (some ⟨b125, 0, none⟩)), (5, .pointer (some ⟨b126, 0, none⟩)), (6, .pointer (some ⟨b137, 0, none⟩))]) kr fun w e1 e2 e3 e4 => ?_
  have H := H.same e1 e2 e3 e4
  clear e1 e2 e3 e4
  refine WD.know [0] kr ?_
  refine WD.know [1] kr ?_
  refine WD.know [2] kr ?_
  refine WD.told 3 91 (.agg (cGFrame ({ y130 with Stack := y161.2, State := y167.1, Out := (⟨y167.2.1, (⟨y167.2.2.1, y167.2.2.2.1⟩ : GValue)⟩ : GOut) }) a164 c164 a132 c132 a133 c133).toArray) kr kr ?_
  refine WD.know [4] kr ?_
  refine WD.know [5] kr ?_
  refine WD.know [6] kr ?_
  refine WD.told 7 95 (.agg (cGAct (⟨y167.2.2.2.2.1, y167.2.2.2.2.2.1, y167.2.2.2.2.2.2.1, y167.2.2.2.2.2.2.2.1, y167.2.2.2.2.2.2.2.2⟩ : GAct) a168 c168).toArray) kr kr ?_
  refine WD.does 8 kr rfl (Floats.of [6, 5, 4, 2, 1, 0] [7, 3] kr (Floats.pure _ kr kr) (.cons (.tells rfl kr rfl (.loadV H 0 rfl 20 kr kr)) (.cons (.tells rfl kr rfl (.loadV H 0 rfl 0 kr kr)) .nil))) kr kr (Does.storeE H 6 (cGFrame ({ y130 with Stack := y161.2, State := y167.1, Out := (⟨y167.2.1, (⟨y167.2.2.1, y167.2.2.2.1⟩ : GValue)⟩ : GOut) }) a164 c164 a132 c132 a133 c133) rfl (q := 0) kr kr kr fun w H => ?_)
  refine WD.does 9 kr rfl (Floats.of [6, 5, 4] [7] kr (Floats.pure _ kr kr) (.cons (.tells rfl kr rfl (.loadV H 0 rfl 20 kr kr)) .nil)) kr kr (Does.storeE H 5 (cGAct (⟨y167.2.2.2.2.1, y167.2.2.2.2.2.1, y167.2.2.2.2.2.2.1, y167.2.2.2.2.2.2.2.1, y167.2.2.2.2.2.2.2.2⟩ : GAct) a168 c168) rfl (q := 0) kr kr kr fun w H => ?_)
  refine WD.fin kr (Floats.of [] [] kr .nil .nil) kr kr ?_
  obtain ⟨h169, le169, f169, H⟩ := (H.front 1 rfl).rowFreeze le167
  obtain ⟨h170, le170, f170, H⟩ := (H.front 1 rfl).rowFreeze (le167.trans le169)
  obtain ⟨h171, le171, f171, H⟩ := (H.front 1 rfl).rowFreeze ((le167.trans le169).trans le170)
  obtain rfl := Option.some.inj hr
  exact WE.ret ⟨[.agg (cGFrame ({ y130 with Stack := y161.2, State := y167.1, Out := (⟨y167.2.1, (⟨y167.2.2.1, y167.2.2.2.1⟩ : GValue)⟩ : GOut) }) a164 c164 a132 c132 a133 c133).toArray, .agg (cGAct (⟨y167.2.2.2.2.1, y167.2.2.2.2.2.1, y167.2.2.2.2.2.2.1, y167.2.2.2.2.2.2.2.1, y167.2.2.2.2.2.2.2.2⟩ : GAct) a168 c168).toArray], ⟨⟨kr, ⟨b125, 0, none⟩, kr, H.loadVar 3 rfl 0 kr⟩, ⟨kr, ⟨b126, 0, none⟩, kr, H.loadVar 2 rfl 0 kr⟩, trivial⟩, ⟨h171, a164, c164, a132, c132, a133, c133, a168, c168, rfl, (((((le130.trans le161).trans le167).trans le169).trans le170).trans le171), ((f169.up le170).up le171), (f170.up le171), f171, (((f168.up le169).up le170).up le171), (H.keep 5)⟩⟩
  }
  {
  refine WE.no kr (b := y140.2.1 == 15) kr t160 ?_
  refine WE.seq ?_
  refine WE.region ?_
  refine WL.fin 2 kr kr ?_
  rcases ite_cases hr with ⟨t172, hr⟩ | ⟨t172, hr⟩
  {
  refine WE.yes kr (b := y140.2.1 == 13) kr t172 ?_
  refine WE.region ?_
  obtain ⟨y173, q173, hr⟩ := bind_cases hr
  refine WL.sg 1 kr ?_
  refine WL.does kr kr (Does.call (c_frame_runner_spawn K (⟨y130, x0, (⟨y140.2.1, y140.2.2.1, y140.2.2.2⟩ : GInstr), (⟨1, 0, 0, 0, []⟩ : GAct)⟩ : Grunner) (f1.up le130) (Sl.nil none 0 (Nat.zero_le _)) H q173) kr ?_)
  rintro _ w ⟨h173, a174, c174, a176, c176, a178, c178, rfl, le173, f178, H⟩
  refine WL.fin 0 kr kr ?_
  refine WE.seq ?_
  refine WE.label ?_
  refine WE.seq ?_
  refine WE.draws mo [4, 5, 6] (ρ' := [(4, .pointer (some ⟨b125, 0, none⟩)), (5, .pointer (some ⟨b126, 0, none⟩)), (6, .pointer (some ⟨b137, 0, none⟩))]) kr fun w e1 e2 e3 e4 => ?_
  have H := H.same e1 e2 e3 e4
  clear e1 e2 e3 e4
  refine WD.know [0] kr ?_
  refine WD.know [1] kr ?_
  refine WD.know [2] kr ?_
  refine WD.told 3 91 (.agg (cGFrame ({ y130 with Pc := y173.1, Stack := y173.2.1, Slots := y173.2.2.1, Spawned := y173.2.2.2.1, State := y173.2.2.2.2.1, Out := (⟨y173.2.2.2.2.2.1, (⟨y173.2.2.2.2.2.2.1, y173.2.2.2.2.2.2.2.1⟩ : GValue)⟩ : GOut) }) a174 c174 a132 c132 a176 c176).toArray) kr kr ?_
  refine WD.know [4] kr ?_
  refine WD.know [5] kr ?_
  refine WD.know [6] kr ?_
  refine WD.told 7 95 (.agg (cGAct (⟨y173.2.2.2.2.2.2.2.2.1, y173.2.2.2.2.2.2.2.2.2.1, y173.2.2.2.2.2.2.2.2.2.2.1, y173.2.2.2.2.2.2.2.2.2.2.2.1, y173.2.2.2.2.2.2.2.2.2.2.2.2⟩ : GAct) a178 c178).toArray) kr kr ?_
  refine WD.does 8 kr rfl (Floats.of [6, 5, 4, 2, 1, 0] [7, 3] kr (Floats.pure _ kr kr) (.cons (.tells rfl kr rfl (.loadV H 0 rfl 20 kr kr)) (.cons (.tells rfl kr rfl (.loadV H 0 rfl 0 kr kr)) .nil))) kr kr (Does.storeE H 5 (cGFrame ({ y130 with Pc := y173.1, Stack := y173.2.1, Slots := y173.2.2.1, Spawned := y173.2.2.2.1, State := y173.2.2.2.2.1, Out := (⟨y173.2.2.2.2.2.1, (⟨y173.2.2.2.2.2.2.1, y173.2.2.2.2.2.2.2.1⟩ : GValue)⟩ : GOut) }) a174 c174 a132 c132 a176 c176) rfl (q := 0) kr kr kr fun w H => ?_)
  refine WD.does 9 kr rfl (Floats.of [6, 5, 4] [7] kr (Floats.pure _ kr kr) (.cons (.tells rfl kr rfl (.loadV H 0 rfl 20 kr kr)) .nil)) kr kr (Does.storeE H 4 (cGAct (⟨y173.2.2.2.2.2.2.2.2.1, y173.2.2.2.2.2.2.2.2.2.1, y173.2.2.2.2.2.2.2.2.2.2.1, y173.2.2.2.2.2.2.2.2.2.2.2.1, y173.2.2.2.2.2.2.2.2.2.2.2.2⟩ : GAct) a178 c178) rfl (q := 0) kr kr kr fun w H => ?_)
  refine WD.fin kr (Floats.of [] [] kr .nil .nil) kr kr ?_
  obtain ⟨h179, le179, f179, H⟩ := (H.front 1 rfl).rowFreeze (Gh.refl _)
  obtain ⟨h180, le180, f180, H⟩ := (H.front 1 rfl).rowFreeze (le173.trans le179)
  obtain ⟨h181, le181, f181, H⟩ := (H.front 1 rfl).rowFreeze (le179.trans le180)
  obtain rfl := Option.some.inj hr
  exact WE.ret ⟨[.agg (cGFrame ({ y130 with Pc := y173.1, Stack := y173.2.1, Slots := y173.2.2.1, Spawned := y173.2.2.2.1, State := y173.2.2.2.2.1, Out := (⟨y173.2.2.2.2.2.1, (⟨y173.2.2.2.2.2.2.1, y173.2.2.2.2.2.2.2.1⟩ : GValue)⟩ : GOut) }) a174 c174 a132 c132 a176 c176).toArray, .agg (cGAct (⟨y173.2.2.2.2.2.2.2.2.1, y173.2.2.2.2.2.2.2.2.2.1, y173.2.2.2.2.2.2.2.2.2.2.1, y173.2.2.2.2.2.2.2.2.2.2.2.1, y173.2.2.2.2.2.2.2.2.2.2.2.2⟩ : GAct) a178 c178).toArray], ⟨⟨kr, ⟨b125, 0, none⟩, kr, H.loadVar 2 rfl 0 kr⟩, ⟨kr, ⟨b126, 0, none⟩, kr, H.loadVar 1 rfl 0 kr⟩, trivial⟩, ⟨h181, a174, c174, a132, c132, a176, c176, a178, c178, rfl, ((((le130.trans le173).trans le179).trans le180).trans le181), ((f179.up le180).up le181), (f180.up le181), f181, (((f178.up le179).up le180).up le181), (H.keep 4)⟩⟩
  }
  {
  refine WE.no kr (b := y140.2.1 == 13) kr t172 ?_
  refine WE.seq ?_
  refine WE.region ?_
  refine WL.fin 2 kr kr ?_
  rcases ite_cases hr with ⟨t182, hr⟩ | ⟨t182, hr⟩
  {
  refine WE.yes kr (b := y140.2.1 == 14) kr t182 ?_
  refine WE.region ?_
  obtain ⟨y183, q183, hr⟩ := bind_cases hr
  refine WL.sg 1 kr ?_
  refine WL.does kr kr (Does.call (c_frame_runner_join (⟨y130, x0, (⟨y140.2.1, y140.2.2.1, y140.2.2.2⟩ : GInstr), (⟨1, 0, 0, 0, []⟩ : GAct)⟩ : Grunner) (f1.up le130) (Sl.nil none 0 (Nat.zero_le _)) H q183) kr ?_)
  rintro _ w ⟨h183, a184, c184, a186, c186, a188, c188, a190, c190, rfl, le183, f190, H⟩
  refine WL.fin 0 kr kr ?_
  refine WE.seq ?_
  refine WE.label ?_
  refine WE.seq ?_
  refine WE.draws mo [4, 5, 6] (ρ' := [(4, .pointer (some ⟨b125, 0, none⟩)), (5, .pointer (some ⟨b126, 0, none⟩)), (6, .pointer (some ⟨b137, 0, none⟩))]) kr fun w e1 e2 e3 e4 => ?_
  have H := H.same e1 e2 e3 e4
  clear e1 e2 e3 e4
  refine WD.know [0] kr ?_
  refine WD.know [1] kr ?_
  refine WD.know [2] kr ?_
  refine WD.told 3 91 (.agg (cGFrame (⟨y130.Fn, y183.1, y183.2.1, y183.2.2.1, y183.2.2.2.1, y130.Seed, y130.Spawned, y130.Draws, y183.2.2.2.2.1, y183.2.2.2.2.2.1, (⟨y183.2.2.2.2.2.2.1, (⟨y183.2.2.2.2.2.2.2.1, y183.2.2.2.2.2.2.2.2.1⟩ : GValue)⟩ : GOut), y130.Up, y130.UpSlot⟩ : GFrame) a184 c184 a186 c186 a188 c188).toArray) kr kr ?_
  refine WD.know [4] kr ?_
  refine WD.know [5] kr ?_
  refine WD.know [6] kr ?_
  refine WD.told 7 95 (.agg (cGAct (⟨y183.2.2.2.2.2.2.2.2.2.1, y183.2.2.2.2.2.2.2.2.2.2.1, y183.2.2.2.2.2.2.2.2.2.2.2.1, y183.2.2.2.2.2.2.2.2.2.2.2.2.1, y183.2.2.2.2.2.2.2.2.2.2.2.2.2⟩ : GAct) a190 c190).toArray) kr kr ?_
  refine WD.does 8 kr rfl (Floats.of [6, 5, 4, 2, 1, 0] [7, 3] kr (Floats.pure _ kr kr) (.cons (.tells rfl kr rfl (.loadV H 0 rfl 20 kr kr)) (.cons (.tells rfl kr rfl (.loadV H 0 rfl 0 kr kr)) .nil))) kr kr (Does.storeE H 5 (cGFrame (⟨y130.Fn, y183.1, y183.2.1, y183.2.2.1, y183.2.2.2.1, y130.Seed, y130.Spawned, y130.Draws, y183.2.2.2.2.1, y183.2.2.2.2.2.1, (⟨y183.2.2.2.2.2.2.1, (⟨y183.2.2.2.2.2.2.2.1, y183.2.2.2.2.2.2.2.2.1⟩ : GValue)⟩ : GOut), y130.Up, y130.UpSlot⟩ : GFrame) a184 c184 a186 c186 a188 c188) rfl (q := 0) kr kr kr fun w H => ?_)
  refine WD.does 9 kr rfl (Floats.of [6, 5, 4] [7] kr (Floats.pure _ kr kr) (.cons (.tells rfl kr rfl (.loadV H 0 rfl 20 kr kr)) .nil)) kr kr (Does.storeE H 4 (cGAct (⟨y183.2.2.2.2.2.2.2.2.2.1, y183.2.2.2.2.2.2.2.2.2.2.1, y183.2.2.2.2.2.2.2.2.2.2.2.1, y183.2.2.2.2.2.2.2.2.2.2.2.2.1, y183.2.2.2.2.2.2.2.2.2.2.2.2.2⟩ : GAct) a190 c190) rfl (q := 0) kr kr kr fun w H => ?_)
  refine WD.fin kr (Floats.of [] [] kr .nil .nil) kr kr ?_
  obtain ⟨h191, le191, f191, H⟩ := (H.front 1 rfl).rowFreeze (Gh.refl _)
  obtain ⟨h192, le192, f192, H⟩ := (H.front 1 rfl).rowFreeze le191
  obtain ⟨h193, le193, f193, H⟩ := (H.front 1 rfl).rowFreeze (le191.trans le192)
  obtain rfl := Option.some.inj hr
  exact WE.ret ⟨[.agg (cGFrame (⟨y130.Fn, y183.1, y183.2.1, y183.2.2.1, y183.2.2.2.1, y130.Seed, y130.Spawned, y130.Draws, y183.2.2.2.2.1, y183.2.2.2.2.2.1, (⟨y183.2.2.2.2.2.2.1, (⟨y183.2.2.2.2.2.2.2.1, y183.2.2.2.2.2.2.2.2.1⟩ : GValue)⟩ : GOut), y130.Up, y130.UpSlot⟩ : GFrame) a184 c184 a186 c186 a188 c188).toArray, .agg (cGAct (⟨y183.2.2.2.2.2.2.2.2.2.1, y183.2.2.2.2.2.2.2.2.2.2.1, y183.2.2.2.2.2.2.2.2.2.2.2.1, y183.2.2.2.2.2.2.2.2.2.2.2.2.1, y183.2.2.2.2.2.2.2.2.2.2.2.2.2⟩ : GAct) a190 c190).toArray], ⟨⟨kr, ⟨b125, 0, none⟩, kr, H.loadVar 2 rfl 0 kr⟩, ⟨kr, ⟨b126, 0, none⟩, kr, H.loadVar 1 rfl 0 kr⟩, trivial⟩, ⟨h193, a184, c184, a186, c186, a188, c188, a190, c190, rfl, ((((le130.trans le183).trans le191).trans le192).trans le193), ((f191.up le192).up le193), (f192.up le193), f193, (((f190.up le191).up le192).up le193), (H.keep 4)⟩⟩
  }
  {
  refine WE.no kr (b := y140.2.1 == 14) kr t182 ?_
  refine WE.seq ?_
  refine WE.seq ?_
  refine WE.region ?_
  refine WL.fin 2 kr kr ?_
  rcases ite_cases hr with ⟨t194, hr⟩ | ⟨t194, hr⟩
  {
  refine WE.yes kr (b := y140.2.1 == 3) kr t194 ?_
  refine WE.skip ?_
  rcases ite_cases hr with ⟨t195, hr⟩ | ⟨t195, hr⟩
  {
  refine WE.yes kr (b := y140.2.1 == 3) kr t195 ?_
  refine WE.region ?_
  obtain ⟨y196, q196, hr⟩ := bind_cases hr
  refine WL.sg 1 kr ?_
  refine WL.does kr kr (Does.call (c_frame_runner_two K (⟨y130, x0, (⟨y140.2.1, y140.2.2.1, y140.2.2.2⟩ : GInstr), (⟨1, 0, 0, 0, []⟩ : GAct)⟩ : Grunner) (f1.up le130) (Sl.nil none 0 (Nat.zero_le _)) H q196) kr ?_)
  rintro _ w ⟨h196, a197, c197, a199, c199, a201, c201, a203, c203, rfl, le196, f203, H⟩
  refine WL.fin 0 kr kr ?_
  refine WE.seq ?_
  refine WE.label ?_
  refine WE.seq ?_
  refine WE.draws mo [4, 5, 6] (ρ' := [(4, .pointer (some ⟨b125, 0, none⟩)), (5, .pointer (some ⟨b126, 0, none⟩)), (6, .pointer (some ⟨b137, 0, none⟩))]) kr fun w e1 e2 e3 e4 => ?_
  have H := H.same e1 e2 e3 e4
  clear e1 e2 e3 e4
  refine WD.know [0] kr ?_
  refine WD.know [1] kr ?_
  refine WD.know [2] kr ?_
  refine WD.told 3 91 (.agg (cGFrame ({ y130 with Pc := y196.1, Stack := y196.2.1, Locals := y196.2.2.1, Slots := y196.2.2.2.1, State := y196.2.2.2.2.1, Out := (⟨y196.2.2.2.2.2.1, (⟨y196.2.2.2.2.2.2.1, y196.2.2.2.2.2.2.2.1⟩ : GValue)⟩ : GOut) }) a197 c197 a199 c199 a201 c201).toArray) kr kr ?_
  refine WD.know [4] kr ?_
  refine WD.know [5] kr ?_
  refine WD.know [6] kr ?_
  refine WD.told 7 95 (.agg (cGAct (⟨y196.2.2.2.2.2.2.2.2.1, y196.2.2.2.2.2.2.2.2.2.1, y196.2.2.2.2.2.2.2.2.2.2.1, y196.2.2.2.2.2.2.2.2.2.2.2.1, y196.2.2.2.2.2.2.2.2.2.2.2.2⟩ : GAct) a203 c203).toArray) kr kr ?_
  refine WD.does 8 kr rfl (Floats.of [6, 5, 4, 2, 1, 0] [7, 3] kr (Floats.pure _ kr kr) (.cons (.tells rfl kr rfl (.loadV H 0 rfl 20 kr kr)) (.cons (.tells rfl kr rfl (.loadV H 0 rfl 0 kr kr)) .nil))) kr kr (Does.storeE H 5 (cGFrame ({ y130 with Pc := y196.1, Stack := y196.2.1, Locals := y196.2.2.1, Slots := y196.2.2.2.1, State := y196.2.2.2.2.1, Out := (⟨y196.2.2.2.2.2.1, (⟨y196.2.2.2.2.2.2.1, y196.2.2.2.2.2.2.2.1⟩ : GValue)⟩ : GOut) }) a197 c197 a199 c199 a201 c201) rfl (q := 0) kr kr kr fun w H => ?_)
  refine WD.does 9 kr rfl (Floats.of [6, 5, 4] [7] kr (Floats.pure _ kr kr) (.cons (.tells rfl kr rfl (.loadV H 0 rfl 20 kr kr)) .nil)) kr kr (Does.storeE H 4 (cGAct (⟨y196.2.2.2.2.2.2.2.2.1, y196.2.2.2.2.2.2.2.2.2.1, y196.2.2.2.2.2.2.2.2.2.2.1, y196.2.2.2.2.2.2.2.2.2.2.2.1, y196.2.2.2.2.2.2.2.2.2.2.2.2⟩ : GAct) a203 c203) rfl (q := 0) kr kr kr fun w H => ?_)
  refine WD.fin kr (Floats.of [] [] kr .nil .nil) kr kr ?_
  obtain ⟨h204, le204, f204, H⟩ := (H.front 1 rfl).rowFreeze (Gh.refl _)
  obtain ⟨h205, le205, f205, H⟩ := (H.front 1 rfl).rowFreeze le204
  obtain ⟨h206, le206, f206, H⟩ := (H.front 1 rfl).rowFreeze (le204.trans le205)
  obtain rfl := Option.some.inj hr
  exact WE.ret ⟨[.agg (cGFrame ({ y130 with Pc := y196.1, Stack := y196.2.1, Locals := y196.2.2.1, Slots := y196.2.2.2.1, State := y196.2.2.2.2.1, Out := (⟨y196.2.2.2.2.2.1, (⟨y196.2.2.2.2.2.2.1, y196.2.2.2.2.2.2.2.1⟩ : GValue)⟩ : GOut) }) a197 c197 a199 c199 a201 c201).toArray, .agg (cGAct (⟨y196.2.2.2.2.2.2.2.2.1, y196.2.2.2.2.2.2.2.2.2.1, y196.2.2.2.2.2.2.2.2.2.2.1, y196.2.2.2.2.2.2.2.2.2.2.2.1, y196.2.2.2.2.2.2.2.2.2.2.2.2⟩ : GAct) a203 c203).toArray], ⟨⟨kr, ⟨b125, 0, none⟩, kr, H.loadVar 2 rfl 0 kr⟩, ⟨kr, ⟨b126, 0, none⟩, kr, H.loadVar 1 rfl 0 kr⟩, trivial⟩, ⟨h206, a197, c197, a199, c199, a201, c201, a203, c203, rfl, ((((le130.trans le196).trans le204).trans le205).trans le206), ((f204.up le205).up le206), (f205.up le206), f206, (((f203.up le204).up le205).up le206), (H.keep 4)⟩⟩
  }
  {
  refine WE.no kr (b := y140.2.1 == 3) kr t195 ?_
  refine WE.region ?_
  obtain ⟨y207, q207, hr⟩ := bind_cases hr
  refine WL.sg 1 kr ?_
  refine WL.does kr kr (Does.call (c_frame_runner_plain K (⟨y130, x0, (⟨y140.2.1, y140.2.2.1, y140.2.2.2⟩ : GInstr), (⟨1, 0, 0, 0, []⟩ : GAct)⟩ : Grunner) (f1.up le130) (Sl.nil none 0 (Nat.zero_le _)) H q207) kr ?_)
  rintro _ w ⟨h207, a208, c208, a210, c210, a212, c212, rfl, le207, H⟩
  refine WL.fin 0 kr kr ?_
  refine WE.seq ?_
  refine WE.label ?_
  refine WE.seq ?_
  refine WE.draws mo [4, 5, 6] (ρ' := [(4, .pointer (some ⟨b125, 0, none⟩)), (5, .pointer (some ⟨b126, 0, none⟩)), (6, .pointer (some ⟨b137, 0, none⟩))]) kr fun w e1 e2 e3 e4 => ?_
  have H := H.same e1 e2 e3 e4
  clear e1 e2 e3 e4
  refine WD.know [0] kr ?_
  refine WD.know [1] kr ?_
  refine WD.know [2] kr ?_
  refine WD.told 3 91 (.agg (cGFrame ({ y130 with Pc := y207.1, Stack := y207.2.1, Locals := y207.2.2.1, Slots := y207.2.2.2.1, Draws := y207.2.2.2.2 }) a208 c208 a210 c210 a212 c212).toArray) kr kr ?_
  refine WD.know [4] kr ?_
  refine WD.know [5] kr ?_
  refine WD.know [6] kr ?_
  refine WD.told 7 95 (.agg (cGAct (⟨1, 0, 0, 0, []⟩ : GAct) none 0).toArray) kr kr ?_
  refine WD.does 8 kr rfl (Floats.of [6, 5, 4, 2, 1, 0] [7, 3] kr (Floats.pure _ kr kr) (.cons (.tells rfl kr rfl (.loadV H 0 rfl 20 kr kr)) (.cons (.tells rfl kr rfl (.loadV H 0 rfl 0 kr kr)) .nil))) kr kr (Does.storeE H 5 (cGFrame ({ y130 with Pc := y207.1, Stack := y207.2.1, Locals := y207.2.2.1, Slots := y207.2.2.2.1, Draws := y207.2.2.2.2 }) a208 c208 a210 c210 a212 c212) rfl (q := 0) kr kr kr fun w H => ?_)
  refine WD.does 9 kr rfl (Floats.of [6, 5, 4] [7] kr (Floats.pure _ kr kr) (.cons (.tells rfl kr rfl (.loadV H 0 rfl 20 kr kr)) .nil)) kr kr (Does.storeE H 4 (cGAct (⟨1, 0, 0, 0, []⟩ : GAct) none 0) rfl (q := 0) kr kr kr fun w H => ?_)
  refine WD.fin kr (Floats.of [] [] kr .nil .nil) kr kr ?_
  obtain ⟨h214, le214, f214, H⟩ := (H.front 1 rfl).rowFreeze (Gh.refl _)
  obtain ⟨h215, le215, f215, H⟩ := (H.front 1 rfl).rowFreeze le214
  obtain ⟨h216, le216, f216, H⟩ := (H.front 1 rfl).rowFreeze (le214.trans le215)
  obtain rfl := Option.some.inj hr
  exact WE.ret ⟨[.agg (cGFrame ({ y130 with Pc := y207.1, Stack := y207.2.1, Locals := y207.2.2.1, Slots := y207.2.2.2.1, Draws := y207.2.2.2.2 }) a208 c208 a210 c210 a212 c212).toArray, .agg (cGAct (⟨1, 0, 0, 0, []⟩ : GAct) none 0).toArray], ⟨⟨kr, ⟨b125, 0, none⟩, kr, H.loadVar 2 rfl 0 kr⟩, ⟨kr, ⟨b126, 0, none⟩, kr, H.loadVar 1 rfl 0 kr⟩, trivial⟩, ⟨h216, a208, c208, a210, c210, a212, c212, none, 0, rfl, ((((le130.trans le207).trans le214).trans le215).trans le216), ((f214.up le215).up le216), (f215.up le216), f216, (Sl.nil _ _ (Nat.zero_le _)), (H.keep 4)⟩⟩
  }
  }
  {
  refine WE.no kr (b := y140.2.1 == 3) kr t194 ?_
  refine WE.seq ?_
  refine WE.region ?_
  refine WL.fin 2 kr kr ?_
  rcases ite_cases hr with ⟨t217, hr⟩ | ⟨t217, hr⟩
  {
  refine WE.yes kr (b := y140.2.1 == 4) kr t217 ?_
  refine WE.skip ?_
  rcases ite_cases hr with ⟨t218, hr⟩ | ⟨t218, hr⟩
  {
  refine WE.yes kr (b := y140.2.1 == 4) kr t218 ?_
  refine WE.region ?_
  obtain ⟨y219, q219, hr⟩ := bind_cases hr
  refine WL.sg 1 kr ?_
  refine WL.does kr kr (Does.call (c_frame_runner_two K (⟨y130, x0, (⟨y140.2.1, y140.2.2.1, y140.2.2.2⟩ : GInstr), (⟨1, 0, 0, 0, []⟩ : GAct)⟩ : Grunner) (f1.up le130) (Sl.nil none 0 (Nat.zero_le _)) H q219) kr ?_)
  rintro _ w ⟨h219, a220, c220, a222, c222, a224, c224, a226, c226, rfl, le219, f226, H⟩
  refine WL.fin 0 kr kr ?_
  refine WE.seq ?_
  refine WE.label ?_
  refine WE.seq ?_
  refine WE.draws mo [4, 5, 6] (ρ' := [(4, .pointer (some ⟨b125, 0, none⟩)), (5, .pointer (some ⟨b126, 0, none⟩)), (6, .pointer (some ⟨b137, 0, none⟩))]) kr fun w e1 e2 e3 e4 => ?_
  have H := H.same e1 e2 e3 e4
  clear e1 e2 e3 e4
  refine WD.know [0] kr ?_
  refine WD.know [1] kr ?_
  refine WD.know [2] kr ?_
  refine WD.told 3 91 (.agg (cGFrame ({ y130 with Pc := y219.1, Stack := y219.2.1, Locals := y219.2.2.1, Slots := y219.2.2.2.1, State := y219.2.2.2.2.1, Out := (⟨y219.2.2.2.2.2.1, (⟨y219.2.2.2.2.2.2.1, y219.2.2.2.2.2.2.2.1⟩ : GValue)⟩ : GOut) }) a220 c220 a222 c222 a224 c224).toArray) kr kr ?_
  refine WD.know [4] kr ?_
  refine WD.know [5] kr ?_
  refine WD.know [6] kr ?_
  refine WD.told 7 95 (.agg (cGAct (⟨y219.2.2.2.2.2.2.2.2.1, y219.2.2.2.2.2.2.2.2.2.1, y219.2.2.2.2.2.2.2.2.2.2.1, y219.2.2.2.2.2.2.2.2.2.2.2.1, y219.2.2.2.2.2.2.2.2.2.2.2.2⟩ : GAct) a226 c226).toArray) kr kr ?_
  refine WD.does 8 kr rfl (Floats.of [6, 5, 4, 2, 1, 0] [7, 3] kr (Floats.pure _ kr kr) (.cons (.tells rfl kr rfl (.loadV H 0 rfl 20 kr kr)) (.cons (.tells rfl kr rfl (.loadV H 0 rfl 0 kr kr)) .nil))) kr kr (Does.storeE H 5 (cGFrame ({ y130 with Pc := y219.1, Stack := y219.2.1, Locals := y219.2.2.1, Slots := y219.2.2.2.1, State := y219.2.2.2.2.1, Out := (⟨y219.2.2.2.2.2.1, (⟨y219.2.2.2.2.2.2.1, y219.2.2.2.2.2.2.2.1⟩ : GValue)⟩ : GOut) }) a220 c220 a222 c222 a224 c224) rfl (q := 0) kr kr kr fun w H => ?_)
  refine WD.does 9 kr rfl (Floats.of [6, 5, 4] [7] kr (Floats.pure _ kr kr) (.cons (.tells rfl kr rfl (.loadV H 0 rfl 20 kr kr)) .nil)) kr kr (Does.storeE H 4 (cGAct (⟨y219.2.2.2.2.2.2.2.2.1, y219.2.2.2.2.2.2.2.2.2.1, y219.2.2.2.2.2.2.2.2.2.2.1, y219.2.2.2.2.2.2.2.2.2.2.2.1, y219.2.2.2.2.2.2.2.2.2.2.2.2⟩ : GAct) a226 c226) rfl (q := 0) kr kr kr fun w H => ?_)
  refine WD.fin kr (Floats.of [] [] kr .nil .nil) kr kr ?_
  obtain ⟨h227, le227, f227, H⟩ := (H.front 1 rfl).rowFreeze (Gh.refl _)
  obtain ⟨h228, le228, f228, H⟩ := (H.front 1 rfl).rowFreeze le227
  obtain ⟨h229, le229, f229, H⟩ := (H.front 1 rfl).rowFreeze (le227.trans le228)
  obtain rfl := Option.some.inj hr
  exact WE.ret ⟨[.agg (cGFrame ({ y130 with Pc := y219.1, Stack := y219.2.1, Locals := y219.2.2.1, Slots := y219.2.2.2.1, State := y219.2.2.2.2.1, Out := (⟨y219.2.2.2.2.2.1, (⟨y219.2.2.2.2.2.2.1, y219.2.2.2.2.2.2.2.1⟩ : GValue)⟩ : GOut) }) a220 c220 a222 c222 a224 c224).toArray, .agg (cGAct (⟨y219.2.2.2.2.2.2.2.2.1, y219.2.2.2.2.2.2.2.2.2.1, y219.2.2.2.2.2.2.2.2.2.2.1, y219.2.2.2.2.2.2.2.2.2.2.2.1, y219.2.2.2.2.2.2.2.2.2.2.2.2⟩ : GAct) a226 c226).toArray], ⟨⟨kr, ⟨b125, 0, none⟩, kr, H.loadVar 2 rfl 0 kr⟩, ⟨kr, ⟨b126, 0, none⟩, kr, H.loadVar 1 rfl 0 kr⟩, trivial⟩, ⟨h229, a220, c220, a222, c222, a224, c224, a226, c226, rfl, ((((le130.trans le219).trans le227).trans le228).trans le229), ((f227.up le228).up le229), (f228.up le229), f229, (((f226.up le227).up le228).up le229), (H.keep 4)⟩⟩
  }
  {
  refine WE.no kr (b := y140.2.1 == 4) kr t218 ?_
  refine WE.region ?_
  obtain ⟨y230, q230, hr⟩ := bind_cases hr
  refine WL.sg 1 kr ?_
  refine WL.does kr kr (Does.call (c_frame_runner_plain K (⟨y130, x0, (⟨y140.2.1, y140.2.2.1, y140.2.2.2⟩ : GInstr), (⟨1, 0, 0, 0, []⟩ : GAct)⟩ : Grunner) (f1.up le130) (Sl.nil none 0 (Nat.zero_le _)) H q230) kr ?_)
  rintro _ w ⟨h230, a231, c231, a233, c233, a235, c235, rfl, le230, H⟩
  refine WL.fin 0 kr kr ?_
  refine WE.seq ?_
  refine WE.label ?_
  refine WE.seq ?_
  refine WE.draws mo [4, 5, 6] (ρ' := [(4, .pointer (some ⟨b125, 0, none⟩)), (5, .pointer (some ⟨b126, 0, none⟩)), (6, .pointer (some ⟨b137, 0, none⟩))]) kr fun w e1 e2 e3 e4 => ?_
  have H := H.same e1 e2 e3 e4
  clear e1 e2 e3 e4
  refine WD.know [0] kr ?_
  refine WD.know [1] kr ?_
  refine WD.know [2] kr ?_
  refine WD.told 3 91 (.agg (cGFrame ({ y130 with Pc := y230.1, Stack := y230.2.1, Locals := y230.2.2.1, Slots := y230.2.2.2.1, Draws := y230.2.2.2.2 }) a231 c231 a233 c233 a235 c235).toArray) kr kr ?_
  refine WD.know [4] kr ?_
  refine WD.know [5] kr ?_
  refine WD.know [6] kr ?_
  refine WD.told 7 95 (.agg (cGAct (⟨1, 0, 0, 0, []⟩ : GAct) none 0).toArray) kr kr ?_
  refine WD.does 8 kr rfl (Floats.of [6, 5, 4, 2, 1, 0] [7, 3] kr (Floats.pure _ kr kr) (.cons (.tells rfl kr rfl (.loadV H 0 rfl 20 kr kr)) (.cons (.tells rfl kr rfl (.loadV H 0 rfl 0 kr kr)) .nil))) kr kr (Does.storeE H 5 (cGFrame ({ y130 with Pc := y230.1, Stack := y230.2.1, Locals := y230.2.2.1, Slots := y230.2.2.2.1, Draws := y230.2.2.2.2 }) a231 c231 a233 c233 a235 c235) rfl (q := 0) kr kr kr fun w H => ?_)
  refine WD.does 9 kr rfl (Floats.of [6, 5, 4] [7] kr (Floats.pure _ kr kr) (.cons (.tells rfl kr rfl (.loadV H 0 rfl 20 kr kr)) .nil)) kr kr (Does.storeE H 4 (cGAct (⟨1, 0, 0, 0, []⟩ : GAct) none 0) rfl (q := 0) kr kr kr fun w H => ?_)
  refine WD.fin kr (Floats.of [] [] kr .nil .nil) kr kr ?_
  obtain ⟨h237, le237, f237, H⟩ := (H.front 1 rfl).rowFreeze (Gh.refl _)
  obtain ⟨h238, le238, f238, H⟩ := (H.front 1 rfl).rowFreeze le237
  obtain ⟨h239, le239, f239, H⟩ := (H.front 1 rfl).rowFreeze (le237.trans le238)
  obtain rfl := Option.some.inj hr
  exact WE.ret ⟨[.agg (cGFrame ({ y130 with Pc := y230.1, Stack := y230.2.1, Locals := y230.2.2.1, Slots := y230.2.2.2.1, Draws := y230.2.2.2.2 }) a231 c231 a233 c233 a235 c235).toArray, .agg (cGAct (⟨1, 0, 0, 0, []⟩ : GAct) none 0).toArray], ⟨⟨kr, ⟨b125, 0, none⟩, kr, H.loadVar 2 rfl 0 kr⟩, ⟨kr, ⟨b126, 0, none⟩, kr, H.loadVar 1 rfl 0 kr⟩, trivial⟩, ⟨h239, a231, c231, a233, c233, a235, c235, none, 0, rfl, ((((le130.trans le230).trans le237).trans le238).trans le239), ((f237.up le238).up le239), (f238.up le239), f239, (Sl.nil _ _ (Nat.zero_le _)), (H.keep 4)⟩⟩
  }
  }
  {
  refine WE.no kr (b := y140.2.1 == 4) kr t217 ?_
  refine WE.seq ?_
  refine WE.region ?_
  refine WL.fin 2 kr kr ?_
  rcases ite_cases hr with ⟨t240, hr⟩ | ⟨t240, hr⟩
  {
  refine WE.yes kr (b := y140.2.1 == 5) kr t240 ?_
  refine WE.skip ?_
  rcases ite_cases hr with ⟨t241, hr⟩ | ⟨t241, hr⟩
  {
  refine WE.yes kr (b := y140.2.1 == 5) kr t241 ?_
  refine WE.region ?_
  obtain ⟨y242, q242, hr⟩ := bind_cases hr
  refine WL.sg 1 kr ?_
  refine WL.does kr kr (Does.call (c_frame_runner_two K (⟨y130, x0, (⟨y140.2.1, y140.2.2.1, y140.2.2.2⟩ : GInstr), (⟨1, 0, 0, 0, []⟩ : GAct)⟩ : Grunner) (f1.up le130) (Sl.nil none 0 (Nat.zero_le _)) H q242) kr ?_)
  rintro _ w ⟨h242, a243, c243, a245, c245, a247, c247, a249, c249, rfl, le242, f249, H⟩
  refine WL.fin 0 kr kr ?_
  refine WE.seq ?_
  refine WE.label ?_
  refine WE.seq ?_
  refine WE.draws mo [4, 5, 6] (ρ' := [(4, .pointer (some ⟨b125, 0, none⟩)), (5, .pointer (some ⟨b126, 0, none⟩)), (6, .pointer (some ⟨b137, 0, none⟩))]) kr fun w e1 e2 e3 e4 => ?_
  have H := H.same e1 e2 e3 e4
  clear e1 e2 e3 e4
  refine WD.know [0] kr ?_
  refine WD.know [1] kr ?_
  refine WD.know [2] kr ?_
  refine WD.told 3 91 (.agg (cGFrame ({ y130 with Pc := y242.1, Stack := y242.2.1, Locals := y242.2.2.1, Slots := y242.2.2.2.1, State := y242.2.2.2.2.1, Out := (⟨y242.2.2.2.2.2.1, (⟨y242.2.2.2.2.2.2.1, y242.2.2.2.2.2.2.2.1⟩ : GValue)⟩ : GOut) }) a243 c243 a245 c245 a247 c247).toArray) kr kr ?_
  refine WD.know [4] kr ?_
  refine WD.know [5] kr ?_
  refine WD.know [6] kr ?_
  refine WD.told 7 95 (.agg (cGAct (⟨y242.2.2.2.2.2.2.2.2.1, y242.2.2.2.2.2.2.2.2.2.1, y242.2.2.2.2.2.2.2.2.2.2.1, y242.2.2.2.2.2.2.2.2.2.2.2.1, y242.2.2.2.2.2.2.2.2.2.2.2.2⟩ : GAct) a249 c249).toArray) kr kr ?_
  refine WD.does 8 kr rfl (Floats.of [6, 5, 4, 2, 1, 0] [7, 3] kr (Floats.pure _ kr kr) (.cons (.tells rfl kr rfl (.loadV H 0 rfl 20 kr kr)) (.cons (.tells rfl kr rfl (.loadV H 0 rfl 0 kr kr)) .nil))) kr kr (Does.storeE H 5 (cGFrame ({ y130 with Pc := y242.1, Stack := y242.2.1, Locals := y242.2.2.1, Slots := y242.2.2.2.1, State := y242.2.2.2.2.1, Out := (⟨y242.2.2.2.2.2.1, (⟨y242.2.2.2.2.2.2.1, y242.2.2.2.2.2.2.2.1⟩ : GValue)⟩ : GOut) }) a243 c243 a245 c245 a247 c247) rfl (q := 0) kr kr kr fun w H => ?_)
  refine WD.does 9 kr rfl (Floats.of [6, 5, 4] [7] kr (Floats.pure _ kr kr) (.cons (.tells rfl kr rfl (.loadV H 0 rfl 20 kr kr)) .nil)) kr kr (Does.storeE H 4 (cGAct (⟨y242.2.2.2.2.2.2.2.2.1, y242.2.2.2.2.2.2.2.2.2.1, y242.2.2.2.2.2.2.2.2.2.2.1, y242.2.2.2.2.2.2.2.2.2.2.2.1, y242.2.2.2.2.2.2.2.2.2.2.2.2⟩ : GAct) a249 c249) rfl (q := 0) kr kr kr fun w H => ?_)
  refine WD.fin kr (Floats.of [] [] kr .nil .nil) kr kr ?_
  obtain ⟨h250, le250, f250, H⟩ := (H.front 1 rfl).rowFreeze (Gh.refl _)
  obtain ⟨h251, le251, f251, H⟩ := (H.front 1 rfl).rowFreeze le250
  obtain ⟨h252, le252, f252, H⟩ := (H.front 1 rfl).rowFreeze (le250.trans le251)
  obtain rfl := Option.some.inj hr
  exact WE.ret ⟨[.agg (cGFrame ({ y130 with Pc := y242.1, Stack := y242.2.1, Locals := y242.2.2.1, Slots := y242.2.2.2.1, State := y242.2.2.2.2.1, Out := (⟨y242.2.2.2.2.2.1, (⟨y242.2.2.2.2.2.2.1, y242.2.2.2.2.2.2.2.1⟩ : GValue)⟩ : GOut) }) a243 c243 a245 c245 a247 c247).toArray, .agg (cGAct (⟨y242.2.2.2.2.2.2.2.2.1, y242.2.2.2.2.2.2.2.2.2.1, y242.2.2.2.2.2.2.2.2.2.2.1, y242.2.2.2.2.2.2.2.2.2.2.2.1, y242.2.2.2.2.2.2.2.2.2.2.2.2⟩ : GAct) a249 c249).toArray], ⟨⟨kr, ⟨b125, 0, none⟩, kr, H.loadVar 2 rfl 0 kr⟩, ⟨kr, ⟨b126, 0, none⟩, kr, H.loadVar 1 rfl 0 kr⟩, trivial⟩, ⟨h252, a243, c243, a245, c245, a247, c247, a249, c249, rfl, ((((le130.trans le242).trans le250).trans le251).trans le252), ((f250.up le251).up le252), (f251.up le252), f252, (((f249.up le250).up le251).up le252), (H.keep 4)⟩⟩
  }
  {
  refine WE.no kr (b := y140.2.1 == 5) kr t241 ?_
  refine WE.region ?_
  obtain ⟨y253, q253, hr⟩ := bind_cases hr
  refine WL.sg 1 kr ?_
  refine WL.does kr kr (Does.call (c_frame_runner_plain K (⟨y130, x0, (⟨y140.2.1, y140.2.2.1, y140.2.2.2⟩ : GInstr), (⟨1, 0, 0, 0, []⟩ : GAct)⟩ : Grunner) (f1.up le130) (Sl.nil none 0 (Nat.zero_le _)) H q253) kr ?_)
  rintro _ w ⟨h253, a254, c254, a256, c256, a258, c258, rfl, le253, H⟩
  refine WL.fin 0 kr kr ?_
  refine WE.seq ?_
  refine WE.label ?_
  refine WE.seq ?_
  refine WE.draws mo [4, 5, 6] (ρ' := [(4, .pointer (some ⟨b125, 0, none⟩)), (5, .pointer (some ⟨b126, 0, none⟩)), (6, .pointer (some ⟨b137, 0, none⟩))]) kr fun w e1 e2 e3 e4 => ?_
  have H := H.same e1 e2 e3 e4
  clear e1 e2 e3 e4
  refine WD.know [0] kr ?_
  refine WD.know [1] kr ?_
  refine WD.know [2] kr ?_
  refine WD.told 3 91 (.agg (cGFrame ({ y130 with Pc := y253.1, Stack := y253.2.1, Locals := y253.2.2.1, Slots := y253.2.2.2.1, Draws := y253.2.2.2.2 }) a254 c254 a256 c256 a258 c258).toArray) kr kr ?_
  refine WD.know [4] kr ?_
  refine WD.know [5] kr ?_
  refine WD.know [6] kr ?_
  refine WD.told 7 95 (.agg (cGAct (⟨1, 0, 0, 0, []⟩ : GAct) none 0).toArray) kr kr ?_
  refine WD.does 8 kr rfl (Floats.of [6, 5, 4, 2, 1, 0] [7, 3] kr (Floats.pure _ kr kr) (.cons (.tells rfl kr rfl (.loadV H 0 rfl 20 kr kr)) (.cons (.tells rfl kr rfl (.loadV H 0 rfl 0 kr kr)) .nil))) kr kr (Does.storeE H 5 (cGFrame ({ y130 with Pc := y253.1, Stack := y253.2.1, Locals := y253.2.2.1, Slots := y253.2.2.2.1, Draws := y253.2.2.2.2 }) a254 c254 a256 c256 a258 c258) rfl (q := 0) kr kr kr fun w H => ?_)
  refine WD.does 9 kr rfl (Floats.of [6, 5, 4] [7] kr (Floats.pure _ kr kr) (.cons (.tells rfl kr rfl (.loadV H 0 rfl 20 kr kr)) .nil)) kr kr (Does.storeE H 4 (cGAct (⟨1, 0, 0, 0, []⟩ : GAct) none 0) rfl (q := 0) kr kr kr fun w H => ?_)
  refine WD.fin kr (Floats.of [] [] kr .nil .nil) kr kr ?_
  obtain ⟨h260, le260, f260, H⟩ := (H.front 1 rfl).rowFreeze (Gh.refl _)
  obtain ⟨h261, le261, f261, H⟩ := (H.front 1 rfl).rowFreeze le260
  obtain ⟨h262, le262, f262, H⟩ := (H.front 1 rfl).rowFreeze (le260.trans le261)
  obtain rfl := Option.some.inj hr
  exact WE.ret ⟨[.agg (cGFrame ({ y130 with Pc := y253.1, Stack := y253.2.1, Locals := y253.2.2.1, Slots := y253.2.2.2.1, Draws := y253.2.2.2.2 }) a254 c254 a256 c256 a258 c258).toArray, .agg (cGAct (⟨1, 0, 0, 0, []⟩ : GAct) none 0).toArray], ⟨⟨kr, ⟨b125, 0, none⟩, kr, H.loadVar 2 rfl 0 kr⟩, ⟨kr, ⟨b126, 0, none⟩, kr, H.loadVar 1 rfl 0 kr⟩, trivial⟩, ⟨h262, a254, c254, a256, c256, a258, c258, none, 0, rfl, ((((le130.trans le253).trans le260).trans le261).trans le262), ((f260.up le261).up le262), (f261.up le262), f262, (Sl.nil _ _ (Nat.zero_le _)), (H.keep 4)⟩⟩
  }
  }
  {
  refine WE.no kr (b := y140.2.1 == 5) kr t240 ?_
  refine WE.region ?_
  refine WL.fin 2 kr kr ?_
  rcases ite_cases hr with ⟨t263, hr⟩ | ⟨t263, hr⟩
  {
  refine WE.yes kr (b := y140.2.1 == 6) kr t263 ?_
  refine WE.region ?_
  obtain ⟨y264, q264, hr⟩ := bind_cases hr
  refine WL.sg 1 kr ?_
  refine WL.does kr kr (Does.call (c_frame_runner_two K (⟨y130, x0, (⟨y140.2.1, y140.2.2.1, y140.2.2.2⟩ : GInstr), (⟨1, 0, 0, 0, []⟩ : GAct)⟩ : Grunner) (f1.up le130) (Sl.nil none 0 (Nat.zero_le _)) H q264) kr ?_)
  rintro _ w ⟨h264, a265, c265, a267, c267, a269, c269, a271, c271, rfl, le264, f271, H⟩
  refine WL.fin 0 kr kr ?_
  refine WE.seq ?_
  refine WE.label ?_
  refine WE.seq ?_
  refine WE.draws mo [4, 5, 6] (ρ' := [(4, .pointer (some ⟨b125, 0, none⟩)), (5, .pointer (some ⟨b126, 0, none⟩)), (6, .pointer (some ⟨b137, 0, none⟩))]) kr fun w e1 e2 e3 e4 => ?_
  have H := H.same e1 e2 e3 e4
  clear e1 e2 e3 e4
  refine WD.know [0] kr ?_
  refine WD.know [1] kr ?_
  refine WD.know [2] kr ?_
  refine WD.told 3 91 (.agg (cGFrame ({ y130 with Pc := y264.1, Stack := y264.2.1, Locals := y264.2.2.1, Slots := y264.2.2.2.1, State := y264.2.2.2.2.1, Out := (⟨y264.2.2.2.2.2.1, (⟨y264.2.2.2.2.2.2.1, y264.2.2.2.2.2.2.2.1⟩ : GValue)⟩ : GOut) }) a265 c265 a267 c267 a269 c269).toArray) kr kr ?_
  refine WD.know [4] kr ?_
  refine WD.know [5] kr ?_
  refine WD.know [6] kr ?_
  refine WD.told 7 95 (.agg (cGAct (⟨y264.2.2.2.2.2.2.2.2.1, y264.2.2.2.2.2.2.2.2.2.1, y264.2.2.2.2.2.2.2.2.2.2.1, y264.2.2.2.2.2.2.2.2.2.2.2.1, y264.2.2.2.2.2.2.2.2.2.2.2.2⟩ : GAct) a271 c271).toArray) kr kr ?_
  refine WD.does 8 kr rfl (Floats.of [6, 5, 4, 2, 1, 0] [7, 3] kr (Floats.pure _ kr kr) (.cons (.tells rfl kr rfl (.loadV H 0 rfl 20 kr kr)) (.cons (.tells rfl kr rfl (.loadV H 0 rfl 0 kr kr)) .nil))) kr kr (Does.storeE H 5 (cGFrame ({ y130 with Pc := y264.1, Stack := y264.2.1, Locals := y264.2.2.1, Slots := y264.2.2.2.1, State := y264.2.2.2.2.1, Out := (⟨y264.2.2.2.2.2.1, (⟨y264.2.2.2.2.2.2.1, y264.2.2.2.2.2.2.2.1⟩ : GValue)⟩ : GOut) }) a265 c265 a267 c267 a269 c269) rfl (q := 0) kr kr kr fun w H => ?_)
  refine WD.does 9 kr rfl (Floats.of [6, 5, 4] [7] kr (Floats.pure _ kr kr) (.cons (.tells rfl kr rfl (.loadV H 0 rfl 20 kr kr)) .nil)) kr kr (Does.storeE H 4 (cGAct (⟨y264.2.2.2.2.2.2.2.2.1, y264.2.2.2.2.2.2.2.2.2.1, y264.2.2.2.2.2.2.2.2.2.2.1, y264.2.2.2.2.2.2.2.2.2.2.2.1, y264.2.2.2.2.2.2.2.2.2.2.2.2⟩ : GAct) a271 c271) rfl (q := 0) kr kr kr fun w H => ?_)
  refine WD.fin kr (Floats.of [] [] kr .nil .nil) kr kr ?_
  obtain ⟨h272, le272, f272, H⟩ := (H.front 1 rfl).rowFreeze (Gh.refl _)
  obtain ⟨h273, le273, f273, H⟩ := (H.front 1 rfl).rowFreeze le272
  obtain ⟨h274, le274, f274, H⟩ := (H.front 1 rfl).rowFreeze (le272.trans le273)
  obtain rfl := Option.some.inj hr
  exact WE.ret ⟨[.agg (cGFrame ({ y130 with Pc := y264.1, Stack := y264.2.1, Locals := y264.2.2.1, Slots := y264.2.2.2.1, State := y264.2.2.2.2.1, Out := (⟨y264.2.2.2.2.2.1, (⟨y264.2.2.2.2.2.2.1, y264.2.2.2.2.2.2.2.1⟩ : GValue)⟩ : GOut) }) a265 c265 a267 c267 a269 c269).toArray, .agg (cGAct (⟨y264.2.2.2.2.2.2.2.2.1, y264.2.2.2.2.2.2.2.2.2.1, y264.2.2.2.2.2.2.2.2.2.2.1, y264.2.2.2.2.2.2.2.2.2.2.2.1, y264.2.2.2.2.2.2.2.2.2.2.2.2⟩ : GAct) a271 c271).toArray], ⟨⟨kr, ⟨b125, 0, none⟩, kr, H.loadVar 2 rfl 0 kr⟩, ⟨kr, ⟨b126, 0, none⟩, kr, H.loadVar 1 rfl 0 kr⟩, trivial⟩, ⟨h274, a265, c265, a267, c267, a269, c269, a271, c271, rfl, ((((le130.trans le264).trans le272).trans le273).trans le274), ((f272.up le273).up le274), (f273.up le274), f274, (((f271.up le272).up le273).up le274), (H.keep 4)⟩⟩
  }
  {
  refine WE.no kr (b := y140.2.1 == 6) kr t263 ?_
  refine WE.region ?_
  obtain ⟨y275, q275, hr⟩ := bind_cases hr
  refine WL.sg 1 kr ?_
  refine WL.does kr kr (Does.call (c_frame_runner_plain K (⟨y130, x0, (⟨y140.2.1, y140.2.2.1, y140.2.2.2⟩ : GInstr), (⟨1, 0, 0, 0, []⟩ : GAct)⟩ : Grunner) (f1.up le130) (Sl.nil none 0 (Nat.zero_le _)) H q275) kr ?_)
  rintro _ w ⟨h275, a276, c276, a278, c278, a280, c280, rfl, le275, H⟩
  refine WL.fin 0 kr kr ?_
  refine WE.seq ?_
  refine WE.label ?_
  refine WE.seq ?_
  refine WE.draws mo [4, 5, 6] (ρ' := [(4, .pointer (some ⟨b125, 0, none⟩)), (5, .pointer (some ⟨b126, 0, none⟩)), (6, .pointer (some ⟨b137, 0, none⟩))]) kr fun w e1 e2 e3 e4 => ?_
  have H := H.same e1 e2 e3 e4
  clear e1 e2 e3 e4
  refine WD.know [0] kr ?_
  refine WD.know [1] kr ?_
  refine WD.know [2] kr ?_
  refine WD.told 3 91 (.agg (cGFrame ({ y130 with Pc := y275.1, Stack := y275.2.1, Locals := y275.2.2.1, Slots := y275.2.2.2.1, Draws := y275.2.2.2.2 }) a276 c276 a278 c278 a280 c280).toArray) kr kr ?_
  refine WD.know [4] kr ?_
  refine WD.know [5] kr ?_
  refine WD.know [6] kr ?_
  refine WD.told 7 95 (.agg (cGAct (⟨1, 0, 0, 0, []⟩ : GAct) none 0).toArray) kr kr ?_
  refine WD.does 8 kr rfl (Floats.of [6, 5, 4, 2, 1, 0] [7, 3] kr (Floats.pure _ kr kr) (.cons (.tells rfl kr rfl (.loadV H 0 rfl 20 kr kr)) (.cons (.tells rfl kr rfl (.loadV H 0 rfl 0 kr kr)) .nil))) kr kr (Does.storeE H 5 (cGFrame ({ y130 with Pc := y275.1, Stack := y275.2.1, Locals := y275.2.2.1, Slots := y275.2.2.2.1, Draws := y275.2.2.2.2 }) a276 c276 a278 c278 a280 c280) rfl (q := 0) kr kr kr fun w H => ?_)
  refine WD.does 9 kr rfl (Floats.of [6, 5, 4] [7] kr (Floats.pure _ kr kr) (.cons (.tells rfl kr rfl (.loadV H 0 rfl 20 kr kr)) .nil)) kr kr (Does.storeE H 4 (cGAct (⟨1, 0, 0, 0, []⟩ : GAct) none 0) rfl (q := 0) kr kr kr fun w H => ?_)
  refine WD.fin kr (Floats.of [] [] kr .nil .nil) kr kr ?_
  obtain ⟨h282, le282, f282, H⟩ := (H.front 1 rfl).rowFreeze (Gh.refl _)
  obtain ⟨h283, le283, f283, H⟩ := (H.front 1 rfl).rowFreeze le282
  obtain ⟨h284, le284, f284, H⟩ := (H.front 1 rfl).rowFreeze (le282.trans le283)
  obtain rfl := Option.some.inj hr
  exact WE.ret ⟨[.agg (cGFrame ({ y130 with Pc := y275.1, Stack := y275.2.1, Locals := y275.2.2.1, Slots := y275.2.2.2.1, Draws := y275.2.2.2.2 }) a276 c276 a278 c278 a280 c280).toArray, .agg (cGAct (⟨1, 0, 0, 0, []⟩ : GAct) none 0).toArray], ⟨⟨kr, ⟨b125, 0, none⟩, kr, H.loadVar 2 rfl 0 kr⟩, ⟨kr, ⟨b126, 0, none⟩, kr, H.loadVar 1 rfl 0 kr⟩, trivial⟩, ⟨h284, a276, c276, a278, c278, a280, c280, none, 0, rfl, ((((le130.trans le275).trans le282).trans le283).trans le284), ((f282.up le283).up le284), (f283.up le284), f284, (Sl.nil _ _ (Nat.zero_le _)), (H.keep 4)⟩⟩
  }
  }
  }
  }
  }
  }
  }
  }
  }
  }
  }
  }
  rcases ite_cases hy128 with ⟨ty128, hy128⟩ | ⟨ty128, hy128⟩
  {
  refine WL.known 15 ty128 kr kr ?_
  refine WL.sg 6 kr ?_
  obtain rfl := hy128
  exact WL.live [0, 3, 4, 5, 21] kr (hk_y128 () _ H)
  }
  {
  refine WL.known 15 ty128 kr kr ?_
  refine WL.sg 1 kr ?_
  refine WL.does kr kr (Does.loadV H 2 rfl 0 kr kr ?_)
  refine WL.sg 4 kr ?_
  obtain rfl := hy128
  exact WL.live [0, 3, 4, 5, 21] kr (hk_y128 () _ H)
  }
  }
  rcases ite_cases hy127 with ⟨ty127, hy127⟩ | ⟨ty127, hy127⟩
  {
  refine WL.known 10 ty127 kr kr ?_
  refine WL.sg 4 kr ?_
  obtain rfl := hy127
  exact WL.live [0, 3, 4, 5, 14] kr (hk_y127 () _ H)
  }
  {
  refine WL.known 10 ty127 kr kr ?_
  refine WL.sg 1 kr ?_
  refine WL.does kr kr (Does.loadV H 2 rfl 0 kr kr ?_)
  refine WL.sg 2 kr ?_
  obtain rfl := hy127
  exact WL.live [0, 3, 4, 5, 14] kr (hk_y127 () _ H)
  }
def frame_Give (x0 : GFrame) (x1 : Int) (x2 : GOut) : Option (GFrame × Bool) :=
  bnd (
      if decide (x1 < 0) then
        true
      else
        decide (x1 ≥ (x0.Slots.length : Int))) fun y27 =>
  (
      if y27 then
        some true
      else
        if 0 ≤ x1 ∧ x1 < x0.Slots.length then
          some (((gd x0.Slots x1).State) != 1)
        else none).bind fun y28 =>
  if y28 then
    some (x0, false)
  else
    (frame_clone x0).bind fun y31 =>
    bnd frame_noRef fun y38 =>
    if 0 ≤ x1 ∧ x1 < y31.Slots.length then
      bnd (
          if y31.State == 1 then
            y31.Wait == x1
          else
            false) fun y41 =>
      if y41 then
        some ({ y31 with Slots := (y31.Slots.set x1.toNat (⟨2, y38, x2⟩ : GSlot)), State := 0, Wait := 0 }, true)
      else
        some ({ y31 with Slots := (y31.Slots.set x1.toNat (⟨2, y38, x2⟩ : GSlot)) }, true)
    else none
set_option maxRecDepth 100000 in
set_option maxHeartbeats 4000000 in
theorem c_frame_Give {w0 w : World} {h : Gh} {L : List Ent} (x0 : GFrame) {a1 : Option Addr} {c1 : Nat} {a2 : Option Addr} {c2 : Nat} {a3 : Option Addr} {c3 : Nat} (f1 : Sl rGValue 16 h a1 c1 x0.Stack) (f2 : Sl rGValue 16 h a2 c2 x0.Locals) (f3 : Sl rGSlot 48 h a3 c3 x0.Slots) (x1 : Int) (x2 : GOut) (H : St w0 h w L) {r : GFrame × Bool} (hr : frame_Give x0 x1 x2 = some r) : Calls Try.prog 16 #[.agg (cGFrame x0 a1 c1 a2 c2 a3 c3).toArray, .int .i64 x1, .agg #[.int .i64 x2.Trap, .int .i64 x2.V.Re, .int .i64 x2.V.Im]] w (fun e w' => ∃ v, e = .returned v ∧ ∃ (h' : Gh) (a901 : Option Addr) (c901 : Nat) (a902 : Option Addr) (c902 : Nat) (a903 : Option Addr) (c903 : Nat), v = .tuple #[.agg (cGFrame r.1 a901 c901 a902 c902 a903 c903).toArray, .bool r.2] ∧ h.le h' ∧ Sl rGValue 16 h' a901 c901 r.1.Stack ∧ Sl rGValue 16 h' a902 c902 r.1.Locals ∧ Sl rGSlot 48 h' a903 c903 r.1.Slots ∧ St w0 h' w' (L)) := by
  refine calls_of (args := [.agg (cGFrame x0 a1 c1 a2 c2 a3 c3).toArray, .int .i64 x1, .agg #[.int .i64 x2.Trap, .int .i64 x2.V.Re, .int .i64 x2.V.Im]]) (n := 48) (rs := [.cell 6 40, .tmp 7]) Try.func16 rfl rfl rfl rfl rfl ?_
  unfold frame_Give at hr
  refine WE.seq ?_
  refine WE.region ?_
  refine WL.does kr kr (Does.box H (cGFrame x0 a1 c1 a2 c2 a3 c3) kr fun b24 w H => ?_)
  refine WL.does kr kr (Does.box H [.int .i64 x2.Trap, .int .i64 x2.V.Re, .int .i64 x2.V.Im] kr fun b25 w H => ?_)
  refine WL.does kr kr (Does.alloc H (cGFrame (⟨0, 0, [], [], [], 0, 0, 0, 0, 0, (⟨0, (⟨0, 0⟩ : GValue)⟩ : GOut), (⟨0, 0⟩ : GRef), 0⟩ : GFrame) none 0 none 0 none 0) kr fun b26 w H => ?_)
  refine WL.fin 1 kr kr ?_
  refine WE.seq ?_
  refine WE.seq ?_
  refine WE.region ?_
  refine WL.sg 3 kr ?_
  obtain ⟨y27, hy27, hr⟩ := bnd_cases hr
  refine WL.join 6 (fun (_ : Unit) => [(1, .int .i64 x1), (3, .pointer (some ⟨b24, 0, none⟩)), (5, .pointer (some ⟨b25, 0, none⟩)), (6, .pointer (some ⟨b26, 0, none⟩)), (16, .bool y27)]) (fun (_ : Unit) w => St w0 h w (var b26 (cGFrame (⟨0, 0, [], [], [], 0, 0, 0, 0, 0, (⟨0, (⟨0, 0⟩ : GValue)⟩ : GOut), (⟨0, 0⟩ : GRef), 0⟩ : GFrame) none 0 none 0 none 0) 40 :: var b25 [.int .i64 x2.Trap, .int .i64 x2.V.Re, .int .i64 x2.V.Im] 36 :: var b24 (cGFrame x0 a1 c1 a2 c2 a3 c3) 40 :: L)) ?_ (fun hk_y27 => ?_)
  {
  rintro _ w H
  refine WL.sg 1 kr ?_
  obtain ⟨y28, hy28, hr⟩ := bind_cases hr
  refine WL.join 8 (fun (_ : Unit) => [(1, .int .i64 x1), (3, .pointer (some ⟨b24, 0, none⟩)), (5, .pointer (some ⟨b25, 0, none⟩)), (6, .pointer (some ⟨b26, 0, none⟩)), (25, .bool y28)]) (fun (_ : Unit) w => St w0 h w (var b26 (cGFrame (⟨0, 0, [], [], [], 0, 0, 0, 0, 0, (⟨0, (⟨0, 0⟩ : GValue)⟩ : GOut), (⟨0, 0⟩ : GRef), 0⟩ : GFrame) none 0 none 0 none 0) 40 :: var b25 [.int .i64 x2.Trap, .int .i64 x2.V.Re, .int .i64 x2.V.Im] 36 :: var b24 (cGFrame x0 a1 c1 a2 c2 a3 c3) 40 :: L)) ?_ (fun hk_y28 => ?_)
  {
  rintro _ w H
  refine WL.fin 0 kr kr ?_
  rcases ite_cases hr with ⟨t30, hr⟩ | ⟨t30, hr⟩
  {
  refine WE.yes kr (b := y28) kr t30 ?_
  refine WE.seq ?_
  refine WE.region ?_
  refine WL.does kr kr (Does.loadV H 2 rfl 0 kr kr ?_)
  refine WL.does kr kr (Does.storeE H 0 (cGFrame x0 a1 c1 a2 c2 a3 c3) rfl (q := 0) kr kr kr fun w H => ?_)
  refine WL.fin 1 kr kr ?_
  obtain rfl := Option.some.inj hr
  exact WE.ret ⟨[.agg (cGFrame x0 a1 c1 a2 c2 a3 c3).toArray, .bool false], ⟨⟨kr, ⟨b26, 0, none⟩, kr, H.loadVar 0 rfl 0 kr⟩, ⟨kr, kr⟩, trivial⟩, ⟨h, a1, c1, a2, c2, a3, c3, rfl, (Gh.refl _), f1, f2, f3, (H.keep 3)⟩⟩
  }
  {
  refine WE.no kr (b := y28) kr t30 ?_
  refine WE.skip ?_
  refine WE.seq ?_
  refine WE.region ?_
  refine WL.does kr kr (Does.loadV H 2 rfl 0 kr kr ?_)
  obtain ⟨y31, q31, hr⟩ := bind_cases hr
  refine WL.does kr kr (Does.call (c_frame_clone x0 f1 f2 f3 H q31) kr ?_)
  rintro _ w ⟨h31, a32, c32, a33, c33, a34, c34, rfl, le31, H⟩
  refine WL.does kr kr (Does.storeE H 5 (cGFrame y31 a32 c32 a33 c33 a34 c34) rfl (q := 0) kr kr kr fun w H => ?_)
  refine WL.fin 0 kr kr ?_
  refine WE.seq ?_
  refine WE.draws mo [1, 3, 5, 6] (ρ' := [(1, .int .i64 x1), (3, .pointer (some ⟨b24, 0, none⟩)), (5, .pointer (some ⟨b25, 0, none⟩)), (6, .pointer (some ⟨b26, 0, none⟩))]) kr fun w e1 e2 e3 e4 => ?_
  have H := H.same e1 e2 e3 e4
  clear e1 e2 e3 e4
  refine WD.know [0] kr ?_
  refine WD.told 1 30 (.slice a34 y31.Slots.length c34) kr kr ?_
  refine WD.know [2] kr ?_
  refine WD.told 4 33 (.agg #[.int .i64 x2.Trap, .int .i64 x2.V.Re, .int .i64 x2.V.Im]) kr kr ?_
  obtain ⟨y38, q38, hr⟩ := bnd_cases hr
  refine WD.does 3 kr rfl (Floats.of [2, 0] [4, 1] kr (Floats.pure _ kr kr) (.cons (.tells rfl kr rfl (.loadV H 4 rfl 0 kr kr)) (.cons (.tells rfl kr rfl (.loadV H 5 rfl 4 kr kr)) .nil))) kr kr (Does.call (c_frame_noRef H q38) kr ?_)
  rintro _ w ⟨rfl, H⟩
  refine WD.know [5] kr ?_
  obtain ⟨⟨g0_39, g1_39⟩, hr⟩ := grd_cases hr
  obtain ⟨b39, p39, rfl⟩ := H.rowSome 2 rfl g0_39 g1_39
  refine WD.told 6 35 (.pointer (some ⟨b39, p39 + x1.toNat * 6, none⟩)) kr kr ?_
  refine WD.does 7 kr rfl (Floats.of [5, 2, 0] [6, 4, 1] kr (Floats.pure _ kr kr) (.cons (.tells rfl kr kr (.idx b39 (p39) y31.Slots.length c34 x1 6 kr kr g0_39 g1_39 kr)) (.cons (.tells rfl kr rfl (.loadV H 4 rfl 0 kr kr)) (.cons (.tells rfl kr rfl (.loadV H 5 rfl 4 kr kr)) .nil)))) kr kr ?_
  obtain ⟨C40, e40, _, hb40, hc40, rfl⟩ := H.rowAt2 2 rfl g0_39 g1_39
  refine Does.storeRow H 2 rfl (Gh.refl _) (j := x1.toNat) (by have h0 := g0_39; have h1 := g1_39; omega) hb40 hc40 0 kr kr (y' := (⟨2, y38, x2⟩ : GSlot)) (by show _ = _; kernel_rfl) fun w H => ?_
  refine WD.spelt 30 (v := .slice (some ⟨b39, p39, none⟩) (y31.Slots.set x1.toNat (⟨2, y38, x2⟩ : GSlot)).length c34) kr (Eq.trans (b := .slice (some ⟨b39, p39, none⟩) y31.Slots.length c34) kr (sl_len (List.length_set ..).symm)) ?_
  have H := H.recell 5 (cGFrame ({ y31 with Slots := (y31.Slots.set x1.toNat (⟨2, y38, x2⟩ : GSlot)) }) a32 c32 a33 c33 (some ⟨b39, p39, none⟩) c34) rfl (by simp only [cGFrame, List.length_set, List.length_take, copied_len])
  refine WD.fin kr (Floats.of [] [] kr .nil .nil) kr kr ?_
  refine WE.seq ?_
  refine WE.seq ?_
  refine WE.region ?_
  refine WL.sg 1 kr ?_
  refine WL.does kr kr (Does.loadV H 5 rfl 8 kr kr ?_)
  refine WL.sg 2 kr ?_
  obtain ⟨y41, hy41, hr⟩ := bnd_cases hr
  refine WL.join 5 (fun (_ : Unit) => [(3, .pointer (some ⟨b24, 0, none⟩)), (6, .pointer (some ⟨b26, 0, none⟩)), (44, .bool y41)]) (fun (_ : Unit) w => St w0 h31 w (row rGValue 16 h31 a32 c32 y31.Stack :: row rGValue 16 h31 a33 c33 y31.Locals :: row rGSlot 48 h31 (some ⟨b39, p39, none⟩) c34 (y31.Slots.set x1.toNat (⟨2, y38, x2⟩ : GSlot)) :: var b26 (cGFrame (⟨0, 0, [], [], [], 0, 0, 0, 0, 0, (⟨0, (⟨0, 0⟩ : GValue)⟩ : GOut), (⟨0, 0⟩ : GRef), 0⟩ : GFrame) none 0 none 0 none 0) 40 :: var b25 [.int .i64 x2.Trap, .int .i64 x2.V.Re, .int .i64 x2.V.Im] 36 :: var b24 (cGFrame ({ y31 with Slots := (y31.Slots.set x1.toNat (⟨2, y38, x2⟩ : GSlot)) }) a32 c32 a33 c33 (some ⟨b39, p39, none⟩) c34) 40 :: L)) ?_ (fun hk_y41 => ?_)
  {
  rintro _ w H
  refine WL.fin 0 kr kr ?_
  rcases ite_cases hr with ⟨t42, hr⟩ | ⟨t42, hr⟩
  {
  refine WE.yes kr (b := y41) kr t42 ?_
  refine WE.region ?_
  refine WL.sg 1 kr ?_
  refine WL.does kr kr (Does.storeE H 5 (cGFrame ({ y31 with Slots := (y31.Slots.set x1.toNat (⟨2, y38, x2⟩ : GSlot)), State := 0 }) a32 c32 a33 c33 (some ⟨b39, p39, none⟩) c34) rfl (q := 8) kr kr kr fun w H => ?_)
  refine WL.sg 1 kr ?_
  refine WL.does kr kr (Does.storeE H 5 (cGFrame ({ y31 with Slots := (y31.Slots.set x1.toNat (⟨2, y38, x2⟩ : GSlot)), State := 0, Wait := 0 }) a32 c32 a33 c33 (some ⟨b39, p39, none⟩) c34) rfl (q := 9) kr kr kr fun w H => ?_)
  refine WL.fin 0 kr kr ?_
  refine WE.seq ?_
  refine WE.region ?_
  refine WL.does kr kr (Does.loadV H 5 rfl 0 kr kr ?_)
  refine WL.does kr kr (Does.storeE H 3 (cGFrame ({ y31 with Slots := (y31.Slots.set x1.toNat (⟨2, y38, x2⟩ : GSlot)), State := 0, Wait := 0 }) a32 c32 a33 c33 (some ⟨b39, p39, none⟩) c34) rfl (q := 0) kr kr kr fun w H => ?_)
  refine WL.fin 1 kr kr ?_
  obtain ⟨h43, le43, f43, H⟩ := (H).rowFreeze (Gh.refl _)
  obtain ⟨h44, le44, f44, H⟩ := (H).rowFreeze le43
  obtain ⟨h45, le45, f45, H⟩ := (H).rowFreeze (le43.trans le44)
  obtain rfl := Option.some.inj hr
  exact WE.ret ⟨[.agg (cGFrame ({ y31 with Slots := (y31.Slots.set x1.toNat (⟨2, y38, x2⟩ : GSlot)), State := 0, Wait := 0 }) a32 c32 a33 c33 (some ⟨b39, p39, none⟩) c34).toArray, .bool true], ⟨⟨kr, ⟨b26, 0, none⟩, kr, H.loadVar 0 rfl 0 kr⟩, ⟨kr, kr⟩, trivial⟩, ⟨h45, a32, c32, a33, c33, (some ⟨b39, p39, none⟩), c34, rfl, (((le31.trans le43).trans le44).trans le45), ((f43.up le44).up le45), (f44.up le45), f45, (H.keep 3)⟩⟩
  }
  {
  refine WE.no kr (b := y41) kr t42 ?_
  refine WE.skip ?_
  refine WE.seq ?_
  refine WE.region ?_
  refine WL.does kr kr (Does.loadV H 5 rfl 0 kr kr ?_)
  refine WL.does kr kr (Does.storeE H 3 (cGFrame ({ y31 with Slots := (y31.Slots.set x1.toNat (⟨2, y38, x2⟩ : GSlot)) }) a32 c32 a33 c33 (some ⟨b39, p39, none⟩) c34) rfl (q := 0) kr kr kr fun w H => ?_)
  refine WL.fin 1 kr kr ?_
  obtain ⟨h46, le46, f46, H⟩ := (H).rowFreeze (Gh.refl _)
  obtain ⟨h47, le47, f47, H⟩ := (H).rowFreeze le46
  obtain ⟨h48, le48, f48, H⟩ := (H).rowFreeze (le46.trans le47)
  obtain rfl := Option.some.inj hr
  exact WE.ret ⟨[.agg (cGFrame ({ y31 with Slots := (y31.Slots.set x1.toNat (⟨2, y38, x2⟩ : GSlot)) }) a32 c32 a33 c33 (some ⟨b39, p39, none⟩) c34).toArray, .bool true], ⟨⟨kr, ⟨b26, 0, none⟩, kr, H.loadVar 0 rfl 0 kr⟩, ⟨kr, kr⟩, trivial⟩, ⟨h48, a32, c32, a33, c33, (some ⟨b39, p39, none⟩), c34, rfl, (((le31.trans le46).trans le47).trans le48), ((f46.up le47).up le48), (f47.up le48), f48, (H.keep 3)⟩⟩
  }
  }
  rcases ite_cases hy41 with ⟨ty41, hy41⟩ | ⟨ty41, hy41⟩
  {
  refine WL.known 39 ty41 kr kr ?_
  refine WL.sg 1 kr ?_
  refine WL.does kr kr (Does.loadV H 5 rfl 9 kr kr ?_)
  refine WL.sg 3 kr ?_
  obtain rfl := hy41
  exact WL.live [3, 6, 44] kr (hk_y41 () _ H)
  }
  {
  refine WL.known 39 ty41 kr kr ?_
  refine WL.sg 5 kr ?_
  obtain rfl := hy41
  exact WL.live [3, 6, 44] kr (hk_y41 () _ H)
  }
  }
  }
  rcases ite_cases hy28 with ⟨ty28, hy28⟩ | ⟨ty28, hy28⟩
  {
  refine WL.known 17 ty28 kr kr ?_
  refine WL.sg 8 kr ?_
  obtain rfl := Option.some.inj hy28
  exact WL.live [1, 3, 5, 6, 25] kr (hk_y28 () _ H)
  }
  {
  refine WL.known 17 ty28 kr kr ?_
  refine WL.sg 1 kr ?_
  refine WL.does kr kr (Does.loadV H 2 rfl 4 kr kr ?_)
  obtain ⟨⟨g0_49, g1_49⟩, hy28⟩ := grd_cases hy28
  obtain ⟨b49, p49, C49, e49, fr49, cs49, rfl, hb49, hc49, rfl⟩ := f3.at g0_49 g1_49
  refine WL.sg 1 kr ?_
  refine WL.does kr kr (Does.tells (.idx b49 (p49) x0.Slots.length c3 x1 6 kr kr g0_49 g1_49 kr) ?_)
  refine WL.sg 1 kr ?_
  refine WL.does kr kr (Does.loadR H hb49 hc49 0 kr kr ?_)
  refine WL.sg 2 kr ?_
  obtain rfl := Option.some.inj hy28
  exact WL.live [1, 3, 5, 6, 25] kr (hk_y28 () _ H)
  }
  }
  rcases ite_cases hy27 with ⟨ty27, hy27⟩ | ⟨ty27, hy27⟩
  {
  refine WL.known 10 ty27 kr kr ?_
  refine WL.sg 6 kr ?_
  obtain rfl := hy27
  exact WL.live [1, 3, 5, 6, 16] kr (hk_y27 () _ H)
  }
  {
  refine WL.known 10 ty27 kr kr ?_
  refine WL.sg 2 kr ?_
  refine WL.does kr kr (Does.loadV H 2 rfl 4 kr kr ?_)
  refine WL.sg 3 kr ?_
  obtain rfl := hy27
  exact WL.live [1, 3, 5, 6, 16] kr (hk_y27 () _ H)
  }
def frame_Final_1 (x0 : GSlot) : Bool :=
  x0.State == 1
set_option maxRecDepth 100000 in
set_option maxHeartbeats 4000000 in
theorem c_frame_Final_1 {w0 w : World} {h : Gh} {L : List Ent} (x0 : GSlot) (H : St w0 h w L) {r : Bool} (hr : frame_Final_1 x0 = r) : Calls Try.prog 38 #[.agg (cGSlot x0).toArray] w (fun e w' => ∃ v, e = .returned v ∧ v = .bool r ∧ St w0 h w' (L)) := by
  refine calls_of (args := [.agg (cGSlot x0).toArray]) (n := 6) (rs := [.tmp 2]) Try.func38 rfl rfl rfl rfl rfl ?_
  unfold frame_Final_1 at hr
  refine WE.seq ?_
  refine WE.region ?_
  refine WL.does kr kr (Does.box H (cGSlot x0) kr fun b1 w H => ?_)
  refine WL.fin 1 kr kr ?_
  refine WE.seq ?_
  refine WE.region ?_
  refine WL.sg 1 kr ?_
  refine WL.does kr kr (Does.loadV H 0 rfl 0 kr kr ?_)
  refine WL.fin 2 kr kr ?_
  obtain rfl := hr
  exact WE.ret ⟨[.bool (x0.State == 1)], ⟨⟨kr, kr⟩, trivial⟩, ⟨rfl, (H.keep 1)⟩⟩
def slices_IndexFunc_Slot_at38_l1 (K : Nat) (x0 : List GSlot) : Nat → Int → Option Int
  | 0, _ => none
  | k1 + 1, y11 =>
    if decide (y11 < (x0.length : Int)) then
      if 0 ≤ y11 ∧ y11 < x0.length then
        bnd (frame_Final_1 (⟨(gd x0 y11).State, (⟨(gd x0 y11).Kid.At, (gd x0 y11).Kid.Gen⟩ : GRef), (⟨(gd x0 y11).Out.Trap, (⟨(gd x0 y11).Out.V.Re, (gd x0 y11).Out.V.Im⟩ : GValue)⟩ : GOut)⟩ : GSlot)) fun y14 =>
        if y14 then
          some y11
        else
          slices_IndexFunc_Slot_at38_l1 K x0 k1 (w64 (y11 + 1))
      else none
    else
      some (-1)
def slices_IndexFunc_Slot_at38 (K : Nat) (x0 : List GSlot) : Option Int :=
  slices_IndexFunc_Slot_at38_l1 K x0 K 0
set_option maxRecDepth 100000 in
set_option maxHeartbeats 4000000 in
theorem c_slices_IndexFunc_Slot_at38 {w0 w : World} {h : Gh} {L : List Ent} (K : Nat) (x0 : List GSlot) {a1 : Option Addr} {c1 : Nat} (f1 : Sl rGSlot 48 h a1 c1 x0) (H : St w0 h w L) {r : Int} (hr : slices_IndexFunc_Slot_at38 K x0 = some r) : Calls Try.prog 69 #[.slice a1 x0.length c1, .func (.func 38) #[] #[]] w (fun e w' => ∃ v, e = .returned v ∧ v = .int .i64 r ∧ St w0 h w' (L)) := by
  refine calls_of (args := [.slice a1 x0.length c1, .func (.func 38) #[] #[]]) (n := 19) (rs := [.tmp 4]) Try.func69 rfl rfl rfl rfl rfl ?_
  unfold slices_IndexFunc_Slot_at38 at hr
  refine WE.seq ?_
  refine WE.region ?_
  refine WL.fin 1 kr kr ?_
  refine WE.seq ?_
  refine WE.seq ?_
  refine WE.region ?_
  refine WL.fin 3 kr kr ?_
  refine WE.block ?_
  refine WE.loop (LP.live [0, 1, 7, 8] kr (LP.rec (slices_IndexFunc_Slot_at38_l1 K x0) (fun (y11 : Int) (_ : Unit) => [(0, .slice a1 x0.length c1), (1, .func (.func 38) #[] #[]), (7, .int .i64 (x0.length : Int)), (8, .int .i64 y11)]) (fun (y11 : Int) (_ : Unit) => fun w => St w0 h w (L)) r (fun _ => rfl) ?_ K 0 () _ H hr))
  rintro k1 ih1 y11 _ w H hr
  simp only [slices_IndexFunc_Slot_at38_l1] at hr
  refine WE.seq ?_
  refine WE.region ?_
  refine WL.fin 1 kr kr ?_
  refine WE.seq ?_
  rcases ite_cases hr with ⟨t12, hr⟩ | ⟨t12, hr⟩
  {
  refine WE.yes kr (b := decide (y11 < (x0.length : Int))) kr t12 ?_
  refine WE.skip ?_
  refine WE.seq ?_
  refine WE.block ?_
  refine WE.seq ?_
  refine WE.region ?_
  refine WL.fin 2 kr kr ?_
  refine WE.seq ?_
  refine WE.region ?_
  obtain ⟨⟨g0_13, g1_13⟩, hr⟩ := grd_cases hr
  obtain ⟨b13, p13, C13, e13, fr13, cs13, rfl, hb13, hc13, rfl⟩ := f1.at g0_13 g1_13
  refine WL.sg 3 kr ?_
  refine WL.does kr kr (Does.tells (.idx b13 (p13) x0.length c1 y11 6 kr kr g0_13 g1_13 kr) ?_)
  refine WL.does kr kr (Does.loadR H hb13 hc13 0 kr kr ?_)
  obtain ⟨y14, q14, hr⟩ := bnd_cases hr
  refine WL.does kr kr (Does.call (c_frame_Final_1 (⟨(gd x0 y11).State, (⟨(gd x0 y11).Kid.At, (gd x0 y11).Kid.Gen⟩ : GRef), (⟨(gd x0 y11).Out.Trap, (⟨(gd x0 y11).Out.V.Re, (gd x0 y11).Out.V.Im⟩ : GValue)⟩ : GOut)⟩ : GSlot) H q14) kr ?_)
  rintro _ w ⟨rfl, H⟩
  refine WL.fin 0 kr kr ?_
  rcases ite_cases hr with ⟨t15, hr⟩ | ⟨t15, hr⟩
  {
  refine WE.yes kr (b := y14) kr t15 ?_
  refine WE.seq ?_
  refine WE.region ?_
  refine WL.fin 2 kr kr ?_
  obtain rfl := Option.some.inj hr
  exact WE.ret ⟨[.int .i64 y11], ⟨⟨kr, kr⟩, trivial⟩, ⟨rfl, H⟩⟩
  }
  {
  refine WE.no kr (b := y14) kr t15 ?_
  refine WE.skip ?_
  refine WE.region ?_
  refine WL.fin 2 kr kr ?_
  exact LP.live [0, 1, 7, 8] kr (ih1 (w64 (y11 + 1)) () _ H hr)
  }
  }
  {
  refine WE.no kr (b := decide (y11 < (x0.length : Int))) kr t12 ?_
  refine WE.exit ?_
  refine WE.seq ?_
  refine WE.region ?_
  refine WL.fin 1 kr kr ?_
  obtain rfl := Option.some.inj hr
  exact WE.ret ⟨[.int .i64 (-1)], ⟨⟨kr, kr⟩, trivial⟩, ⟨rfl, H⟩⟩
  }
def slices_ContainsFunc_Slot_at38 (K : Nat) (x0 : List GSlot) : Option Bool :=
  (slices_IndexFunc_Slot_at38 K x0).bind fun y2 =>
  some (decide (y2 ≥ 0))
set_option maxRecDepth 100000 in
set_option maxHeartbeats 4000000 in
theorem c_slices_ContainsFunc_Slot_at38 {w0 w : World} {h : Gh} {L : List Ent} (K : Nat) (x0 : List GSlot) {a1 : Option Addr} {c1 : Nat} (f1 : Sl rGSlot 48 h a1 c1 x0) (H : St w0 h w L) {r : Bool} (hr : slices_ContainsFunc_Slot_at38 K x0 = some r) : Calls Try.prog 39 #[.slice a1 x0.length c1, .func (.func 38) #[] #[]] w (fun e w' => ∃ v, e = .returned v ∧ v = .bool r ∧ St w0 h w' (L)) := by
  refine calls_of (args := [.slice a1 x0.length c1, .func (.func 38) #[] #[]]) (n := 9) (rs := [.tmp 4]) Try.func39 rfl rfl rfl rfl rfl ?_
  unfold slices_ContainsFunc_Slot_at38 at hr
  refine WE.seq ?_
  refine WE.region ?_
  refine WL.fin 1 kr kr ?_
  refine WE.seq ?_
  refine WE.region ?_
  obtain ⟨y2, q2, hr⟩ := bind_cases hr
  refine WL.sg 2 kr ?_
  refine WL.does kr kr (Does.call (c_slices_IndexFunc_Slot_at38 K x0 f1 H q2) kr ?_)
  rintro _ w ⟨rfl, H⟩
  refine WL.fin 2 kr kr ?_
  obtain rfl := Option.some.inj hr
  exact WE.ret ⟨[.bool (decide (y2 ≥ 0))], ⟨⟨kr, kr⟩, trivial⟩, ⟨rfl, H⟩⟩
def frame_Final_l1 (K : Nat) (x0 : GFrame) : Nat → Int → Option (GOut × Bool)
  | 0, _ => none
  | k1 + 1, y21 =>
    if decide (y21 < (x0.Slots.length : Int)) then
      if 0 ≤ y21 ∧ y21 < x0.Slots.length then
        bnd (
            if ((gd x0.Slots y21).State) == 2 then
              ((gd x0.Slots y21).Out.Trap) != 0
            else
              false) fun y25 =>
        if y25 then
          some ((⟨(gd x0.Slots y21).Out.Trap, (⟨0, 0⟩ : GValue)⟩ : GOut), true)
        else
          frame_Final_l1 K x0 k1 (w64 (y21 + 1))
      else none
    else
      some (x0.Out, true)
def frame_Final (K : Nat) (x0 : GFrame) : Option (GOut × Bool) :=
  (
      if x0.State != 2 then
        some true
      else
        (slices_ContainsFunc_Slot_at38 K x0.Slots).bind fun y27 =>
        some y27).bind fun y6 =>
  if y6 then
    some ((⟨0, (⟨0, 0⟩ : GValue)⟩ : GOut), false)
  else
    if x0.Out.Trap != 0 then
      some (x0.Out, true)
    else
      frame_Final_l1 K x0 K 0
set_option maxRecDepth 100000 in
set_option maxHeartbeats 4000000 in
theorem c_frame_Final {w0 w : World} {h : Gh} {L : List Ent} (K : Nat) (x0 : GFrame) {a1 : Option Addr} {c1 : Nat} {a2 : Option Addr} {c2 : Nat} {a3 : Option Addr} {c3 : Nat} (f1 : Sl rGValue 16 h a1 c1 x0.Stack) (f2 : Sl rGValue 16 h a2 c2 x0.Locals) (f3 : Sl rGSlot 48 h a3 c3 x0.Slots) (H : St w0 h w L) {r : GOut × Bool} (hr : frame_Final K x0 = some r) : Calls Try.prog 17 #[.agg (cGFrame x0 a1 c1 a2 c2 a3 c3).toArray] w (fun e w' => ∃ v, e = .returned v ∧ v = .tuple #[.agg #[.int .i64 r.1.Trap, .int .i64 r.1.V.Re, .int .i64 r.1.V.Im], .bool r.2] ∧ St w0 h w' (L)) := by
  refine calls_of (args := [.agg (cGFrame x0 a1 c1 a2 c2 a3 c3).toArray]) (n := 46) (rs := [.cell 2 36, .tmp 3]) Try.func17 rfl rfl rfl rfl rfl ?_
  unfold frame_Final at hr
  refine WE.seq ?_
  refine WE.region ?_
  refine WL.does kr kr (Does.box H (cGFrame x0 a1 c1 a2 c2 a3 c3) kr fun b4 w H => ?_)
  refine WL.does kr kr (Does.alloc H [.int .i64 0, .int .i64 0, .int .i64 0] kr fun b5 w H => ?_)
  refine WL.fin 1 kr kr ?_
  refine WE.seq ?_
  refine WE.region ?_
  refine WL.fin 1 kr kr ?_
  refine WE.seq ?_
  refine WE.seq ?_
  refine WE.region ?_
  refine WL.sg 1 kr ?_
  refine WL.does kr kr (Does.loadV H 1 rfl 8 kr kr ?_)
  refine WL.sg 2 kr ?_
  obtain ⟨y6, hy6, hr⟩ := bind_cases hr
  refine WL.join 5 (fun (_ : Unit) => [(1, .pointer (some ⟨b4, 0, none⟩)), (2, .pointer (some ⟨b5, 0, none⟩)), (15, .bool y6)]) (fun (_ : Unit) w => St w0 h w (var b5 [.int .i64 0, .int .i64 0, .int .i64 0] 36 :: var b4 (cGFrame x0 a1 c1 a2 c2 a3 c3) 40 :: L)) ?_ (fun hk_y6 => ?_)
  {
  rintro _ w H
  refine WL.fin 0 kr kr ?_
  rcases ite_cases hr with ⟨t8, hr⟩ | ⟨t8, hr⟩
  {
  refine WE.yes kr (b := y6) kr t8 ?_
  refine WE.seq ?_
  refine WE.region ?_
  refine WL.sg 1 kr ?_
  refine WL.does kr kr (Does.storeE H 0 [.int .i64 0, .int .i64 0, .int .i64 0] rfl (q := 0) kr kr kr fun w H => ?_)
  refine WL.fin 1 kr kr ?_
  obtain rfl := Option.some.inj hr
  exact WE.ret ⟨[.agg #[.int .i64 0, .int .i64 0, .int .i64 0], .bool false], ⟨⟨kr, ⟨b5, 0, none⟩, kr, H.loadVar 0 rfl 0 kr⟩, ⟨kr, kr⟩, trivial⟩, ⟨rfl, (H.keep 2)⟩⟩
  }
  {
  refine WE.no kr (b := y6) kr t8 ?_
  refine WE.skip ?_
  refine WE.seq ?_
  refine WE.seq ?_
  refine WE.region ?_
  refine WL.sg 2 kr ?_
  refine WL.does kr kr (Does.loadV H 1 rfl 10 kr kr ?_)
  refine WL.fin 1 kr kr ?_
  rcases ite_cases hr with ⟨t9, hr⟩ | ⟨t9, hr⟩
  {
  refine WE.yes kr (b := x0.Out.Trap != 0) kr t9 ?_
  refine WE.seq ?_
  refine WE.region ?_
  refine WL.sg 1 kr ?_
  refine WL.does kr kr (Does.loadV H 1 rfl 10 kr kr ?_)
  refine WL.does kr kr (Does.storeE H 0 [.int .i64 x0.Out.Trap, .int .i64 x0.Out.V.Re, .int .i64 x0.Out.V.Im] rfl (q := 0) kr kr kr fun w H => ?_)
  refine WL.fin 1 kr kr ?_
  obtain rfl := Option.some.inj hr
  exact WE.ret ⟨[.agg #[.int .i64 x0.Out.Trap, .int .i64 x0.Out.V.Re, .int .i64 x0.Out.V.Im], .bool true], ⟨⟨kr, ⟨b5, 0, none⟩, kr, H.loadVar 0 rfl 0 kr⟩, ⟨kr, kr⟩, trivial⟩, ⟨rfl, (H.keep 2)⟩⟩
  }
  {
  refine WE.no kr (b := x0.Out.Trap != 0) kr t9 ?_
  refine WE.skip ?_
  refine WE.seq ?_
  refine WE.seq ?_
  refine WE.region ?_
  refine WL.sg 1 kr ?_
  refine WL.does kr kr (Does.loadV H 1 rfl 4 kr kr ?_)
  refine WL.fin 2 kr kr ?_
  refine WE.block ?_
  refine WE.loop (LP.live [1, 2, 24, 25, 26] kr (LP.rec (frame_Final_l1 K x0) (fun (y21 : Int) (_ : Unit) => [(1, .pointer (some ⟨b4, 0, none⟩)), (2, .pointer (some ⟨b5, 0, none⟩)), (24, .slice a3 x0.Slots.length c3), (25, .int .i64 (x0.Slots.length : Int)), (26, .int .i64 y21)]) (fun (y21 : Int) (_ : Unit) => fun w => St w0 h w (var b5 [.int .i64 0, .int .i64 0, .int .i64 0] 36 :: var b4 (cGFrame x0 a1 c1 a2 c2 a3 c3) 40 :: L)) r (fun _ => rfl) ?_ K 0 () _ H hr))
  rintro k1 ih1 y21 _ w H hr
  simp only [frame_Final_l1] at hr
  refine WE.seq ?_
  refine WE.region ?_
  refine WL.fin 1 kr kr ?_
  refine WE.seq ?_
  rcases ite_cases hr with ⟨t22, hr⟩ | ⟨t22, hr⟩
  {
  refine WE.yes kr (b := decide (y21 < (x0.Slots.length : Int))) kr t22 ?_
  refine WE.skip ?_
  refine WE.seq ?_
  refine WE.block ?_
  refine WE.seq ?_
  refine WE.region ?_
  obtain ⟨⟨g0_23, g1_23⟩, hr⟩ := grd_cases hr
  obtain ⟨b23, p23, C23, e23, fr23, cs23, rfl, hb23, hc23, rfl⟩ := f3.at g0_23 g1_23
  refine WL.does kr kr (Does.tells (.idx b23 (p23) x0.Slots.length c3 y21 6 kr kr g0_23 g1_23 kr) ?_)
  refine WL.does kr kr (Does.loadR H hb23 hc23 0 kr kr ?_)
  refine WL.does kr kr (Does.alloc H (cGSlot (⟨0, (⟨0, 0⟩ : GRef), (⟨0, (⟨0, 0⟩ : GValue)⟩ : GOut)⟩ : GSlot)) kr fun b24 w H => ?_)
  refine WL.does kr kr (Does.storeE H 0 (cGSlot (⟨(gd x0.Slots y21).State, (⟨(gd x0.Slots y21).Kid.At, (gd x0.Slots y21).Kid.Gen⟩ : GRef), (⟨(gd x0.Slots y21).Out.Trap, (⟨(gd x0.Slots y21).Out.V.Re, (gd x0.Slots y21).Out.V.Im⟩ : GValue)⟩ : GOut)⟩ : GSlot)) rfl (q := 0) kr kr kr fun w H => ?_)
  refine WL.fin 0 kr kr ?_
  refine WE.seq ?_
  refine WE.region ?_
  refine WL.sg 1 kr ?_
  refine WL.does kr kr (Does.loadV H 0 rfl 0 kr kr ?_)
  refine WL.sg 2 kr ?_
  obtain ⟨y25, hy25, hr⟩ := bnd_cases hr
  refine WL.join 5 (fun (_ : Unit) => [(1, .pointer (some ⟨b4, 0, none⟩)), (2, .pointer (some ⟨b5, 0, none⟩)), (6, .pointer (some ⟨b24, 0, none⟩)), (24, .slice (some ⟨b23, p23, none⟩) x0.Slots.length c3), (25, .int .i64 (x0.Slots.length : Int)), (26, .int .i64 y21), (38, .bool y25)]) (fun (_ : Unit) w => St w0 h w (var b24 (cGSlot (⟨(gd x0.Slots y21).State, (⟨(gd x0.Slots y21).Kid.At, (gd x0.Slots y21).Kid.Gen⟩ : GRef), (⟨(gd x0.Slots y21).Out.Trap, (⟨(gd x0.Slots y21).Out.V.Re, (gd x0.Slots y21).Out.V.Im⟩ : GValue)⟩ : GOut)⟩ : GSlot)) 80 :: var b5 [.int .i64 0, .int .i64 0, .int .i64 0] 36 :: var b4 (cGFrame x0 a1 c1 a2 c2 (some ⟨b23, p23, none⟩) c3) 40 :: L)) ?_ (fun hk_y25 => ?_)
  {
  rintro _ w H
  refine WL.fin 0 kr kr ?_
  rcases ite_cases hr with ⟨t26, hr⟩ | ⟨t26, hr⟩
  {
  refine WE.yes kr (b := y25) kr t26 ?_
  refine WE.seq ?_
  refine WE.region ?_
  refine WL.sg 2 kr ?_
  refine WL.does kr kr (Does.loadV H 0 rfl 3 kr kr ?_)
  refine WL.sg 1 kr ?_
  refine WL.does kr kr (Does.storeE H 1 [.int .i64 ((gd x0.Slots y21).Out.Trap), .int .i64 0, .int .i64 0] rfl (q := 0) kr kr kr fun w H => ?_)
  refine WL.fin 1 kr kr ?_
  obtain rfl := Option.some.inj hr
  exact WE.ret ⟨[.agg #[.int .i64 ((gd x0.Slots y21).Out.Trap), .int .i64 0, .int .i64 0], .bool true], ⟨⟨kr, ⟨b5, 0, none⟩, kr, H.loadVar 1 rfl 0 kr⟩, ⟨kr, kr⟩, trivial⟩, ⟨rfl, (H.keep 3)⟩⟩
  }
  {
  refine WE.no kr (b := y25) kr t26 ?_
  refine WE.skip ?_
  refine WE.region ?_
  refine WL.fin 2 kr kr ?_
  exact LP.live [1, 2, 24, 25, 26] kr (ih1 (w64 (y21 + 1)) () _ (H.keep 1) hr)
  }
  }
  rcases ite_cases hy25 with ⟨ty25, hy25⟩ | ⟨ty25, hy25⟩
  {
  refine WL.known 33 ty25 kr kr ?_
  refine WL.sg 2 kr ?_
  refine WL.does kr kr (Does.loadV H 0 rfl 3 kr kr ?_)
  refine WL.sg 2 kr ?_
  obtain rfl := hy25
  exact WL.live [1, 2, 6, 24, 25, 26, 38] kr (hk_y25 () _ H)
  }
  {
  refine WL.known 33 ty25 kr kr ?_
  refine WL.sg 5 kr ?_
  obtain rfl := hy25
  exact WL.live [1, 2, 6, 24, 25, 26, 38] kr (hk_y25 () _ H)
  }
  }
  {
  refine WE.no kr (b := decide (y21 < (x0.Slots.length : Int))) kr t22 ?_
  refine WE.exit ?_
  refine WE.seq ?_
  refine WE.region ?_
  refine WL.sg 1 kr ?_
  refine WL.does kr kr (Does.loadV H 1 rfl 10 kr kr ?_)
  refine WL.does kr kr (Does.storeE H 0 [.int .i64 x0.Out.Trap, .int .i64 x0.Out.V.Re, .int .i64 x0.Out.V.Im] rfl (q := 0) kr kr kr fun w H => ?_)
  refine WL.fin 1 kr kr ?_
  obtain rfl := Option.some.inj hr
  exact WE.ret ⟨[.agg #[.int .i64 x0.Out.Trap, .int .i64 x0.Out.V.Re, .int .i64 x0.Out.V.Im], .bool true], ⟨⟨kr, ⟨b5, 0, none⟩, kr, H.loadVar 0 rfl 0 kr⟩, ⟨kr, kr⟩, trivial⟩, ⟨rfl, (H.keep 2)⟩⟩
  }
  }
  }
  }
  rcases ite_cases hy6 with ⟨ty6, hy6⟩ | ⟨ty6, hy6⟩
  {
  refine WL.known 10 ty6 kr kr ?_
  refine WL.sg 5 kr ?_
  obtain rfl := Option.some.inj hy6
  exact WL.live [1, 2, 15] kr (hk_y6 () _ H)
  }
  {
  refine WL.known 10 ty6 kr kr ?_
  refine WL.sg 1 kr ?_
  refine WL.does kr kr (Does.loadV H 1 rfl 4 kr kr ?_)
  obtain ⟨y27, q27, hy6⟩ := bind_cases hy6
  refine WL.sg 1 kr ?_
  refine WL.does kr kr (Does.call (c_slices_ContainsFunc_Slot_at38 K x0.Slots f3 H q27) kr ?_)
  rintro _ w ⟨rfl, H⟩
  refine WL.sg 1 kr ?_
  obtain rfl := Option.some.inj hy6
  exact WL.live [1, 2, 15] kr (hk_y6 () _ H)
  }
def slices_Equal_Value_l1 (K : Nat) (x0 : List GValue) (x1 : List GValue) : Nat → Int → Option Bool
  | 0, _ => none
  | k1 + 1, y13 =>
    if decide (y13 < (x0.length : Int)) then
      if 0 ≤ y13 ∧ y13 < x0.length then
        if 0 ≤ y13 ∧ y13 < x1.length then
          if !((((gd x0 y13).Re) == ((gd x1 y13).Re)) && ((((gd x0 y13).Im) == ((gd x1 y13).Im)) && true)) then
            some false
          else
            slices_Equal_Value_l1 K x0 x1 k1 (w64 (y13 + 1))
        else none
      else none
    else
      some true
def slices_Equal_Value (K : Nat) (x0 : List GValue) (x1 : List GValue) : Option Bool :=
  if (x0.length : Int) != (x1.length : Int) then
    some false
  else
    slices_Equal_Value_l1 K x0 x1 K 0
set_option maxRecDepth 100000 in
set_option maxHeartbeats 4000000 in
theorem c_slices_Equal_Value {w0 w : World} {h : Gh} {L : List Ent} (K : Nat) (x0 : List GValue) {a1 : Option Addr} {c1 : Nat} (f1 : Sl rGValue 16 h a1 c1 x0) (x1 : List GValue) {a2 : Option Addr} {c2 : Nat} (f2 : Sl rGValue 16 h a2 c2 x1) (H : St w0 h w L) {r : Bool} (hr : slices_Equal_Value K x0 x1 = some r) : Calls Try.prog 40 #[.slice a1 x0.length c1, .slice a2 x1.length c2] w (fun e w' => ∃ v, e = .returned v ∧ v = .bool r ∧ St w0 h w' (L)) := by
  refine calls_of (args := [.slice a1 x0.length c1, .slice a2 x1.length c2]) (n := 26) (rs := [.tmp 4]) Try.func40 rfl rfl rfl rfl rfl ?_
  unfold slices_Equal_Value at hr
  refine WE.seq ?_
  refine WE.region ?_
  refine WL.fin 1 kr kr ?_
  refine WE.seq ?_
  refine WE.seq ?_
  refine WE.region ?_
  refine WL.fin 5 kr kr ?_
  rcases ite_cases hr with ⟨t3, hr⟩ | ⟨t3, hr⟩
  {
  refine WE.yes kr (b := (x0.length : Int) != (x1.length : Int)) kr t3 ?_
  refine WE.seq ?_
  refine WE.region ?_
  refine WL.fin 1 kr kr ?_
  obtain rfl := Option.some.inj hr
  exact WE.ret ⟨[.bool false], ⟨⟨kr, kr⟩, trivial⟩, ⟨rfl, H⟩⟩
  }
  {
  refine WE.no kr (b := (x0.length : Int) != (x1.length : Int)) kr t3 ?_
  refine WE.skip ?_
  refine WE.seq ?_
  refine WE.seq ?_
  refine WE.region ?_
  refine WL.fin 3 kr kr ?_
  refine WE.block ?_
  refine WE.loop (LP.live [0, 1, 12, 13] kr (LP.rec (slices_Equal_Value_l1 K x0 x1) (fun (y13 : Int) (_ : Unit) => [(0, .slice a1 x0.length c1), (1, .slice a2 x1.length c2), (12, .int .i64 (x0.length : Int)), (13, .int .i64 y13)]) (fun (y13 : Int) (_ : Unit) => fun w => St w0 h w (L)) r (fun _ => rfl) ?_ K 0 () _ H hr))
  rintro k1 ih1 y13 _ w H hr
  simp only [slices_Equal_Value_l1] at hr
  refine WE.seq ?_
  refine WE.region ?_
  refine WL.fin 1 kr kr ?_
  refine WE.seq ?_
  rcases ite_cases hr with ⟨t14, hr⟩ | ⟨t14, hr⟩
  {
  refine WE.yes kr (b := decide (y13 < (x0.length : Int))) kr t14 ?_
  refine WE.skip ?_
  refine WE.seq ?_
  refine WE.block ?_
  refine WE.seq ?_
  refine WE.region ?_
  refine WL.fin 2 kr kr ?_
  refine WE.seq ?_
  refine WE.draws mo [0, 1, 5, 12, 13] (ρ' := [(0, .slice a1 x0.length c1), (1, .slice a2 x1.length c2), (5, .int .i64 y13), (12, .int .i64 (x0.length : Int)), (13, .int .i64 y13)]) kr fun w e1 e2 e3 e4 => ?_
  have H := H.same e1 e2 e3 e4
  clear e1 e2 e3 e4
  refine WD.know [0] kr ?_
  refine WD.know [1] kr ?_
  obtain ⟨⟨g0_15, g1_15⟩, hr⟩ := grd_cases hr
  obtain ⟨b15, p15, C15, e15, fr15, cs15, rfl, hb15, hc15, rfl⟩ := f1.at g0_15 g1_15
  refine WD.told 2 18 (.pointer (some ⟨b15, p15 + y13.toNat * 2, none⟩)) kr kr ?_
  refine WD.told 3 19 (.agg #[.int .i64 ((gd x0 y13).Re), .int .i64 ((gd x0 y13).Im)]) kr kr ?_
  refine WD.know [4] kr ?_
  refine WD.know [5] kr ?_
  obtain ⟨⟨g0_16, g1_16⟩, hr⟩ := grd_cases hr
  obtain ⟨b16, p16, C16, e16, fr16, cs16, rfl, hb16, hc16, rfl⟩ := f2.at g0_16 g1_16
  refine WD.told 6 22 (.pointer (some ⟨b16, p16 + y13.toNat * 2, none⟩)) kr kr ?_
  refine WD.told 7 23 (.agg #[.int .i64 ((gd x1 y13).Re), .int .i64 ((gd x1 y13).Im)]) kr kr ?_
  refine WD.told 8 24 (.bool (!((((gd x0 y13).Re) == ((gd x1 y13).Re)) && ((((gd x0 y13).Im) == ((gd x1 y13).Im)) && true)))) kr kr ?_
  refine WD.fin kr (Floats.of [5, 4, 1, 0] [8, 7, 6, 3, 2] kr (Floats.pure _ kr kr) (.cons (.tells rfl kr kr (.neq ((((gd x0 y13).Re) == ((gd x1 y13).Re)) && ((((gd x0 y13).Im) == ((gd x1 y13).Im)) && true)) kr kr kr)) (.cons (.tells rfl kr rfl (.loadR H hb16 hc16 0 kr kr)) (.cons (.tells rfl kr kr (.idx b16 (p16) x1.length c2 y13 2 kr kr g0_16 g1_16 kr)) (.cons (.tells rfl kr rfl (.loadR H hb15 hc15 0 kr kr)) (.cons (.tells rfl kr kr (.idx b15 (p15) x0.length c1 y13 2 kr kr g0_15 g1_15 kr)) .nil)))))) kr kr ?_
  rcases ite_cases hr with ⟨t17, hr⟩ | ⟨t17, hr⟩
  {
  refine WE.yes kr (b := !((((gd x0 y13).Re) == ((gd x1 y13).Re)) && ((((gd x0 y13).Im) == ((gd x1 y13).Im)) && true))) kr t17 ?_
  refine WE.seq ?_
  refine WE.region ?_
  refine WL.fin 1 kr kr ?_
  obtain rfl := Option.some.inj hr
  exact WE.ret ⟨[.bool false], ⟨⟨kr, kr⟩, trivial⟩, ⟨rfl, H⟩⟩
  }
  {
  refine WE.no kr (b := !((((gd x0 y13).Re) == ((gd x1 y13).Re)) && ((((gd x0 y13).Im) == ((gd x1 y13).Im)) && true))) kr t17 ?_
  refine WE.skip ?_
  refine WE.region ?_
  refine WL.fin 2 kr kr ?_
  exact LP.live [0, 1, 12, 13] kr (ih1 (w64 (y13 + 1)) () _ H hr)
  }
  }
  {
  refine WE.no kr (b := decide (y13 < (x0.length : Int))) kr t14 ?_
  refine WE.exit ?_
  refine WE.seq ?_
  refine WE.region ?_
  refine WL.fin 1 kr kr ?_
  obtain rfl := Option.some.inj hr
  exact WE.ret ⟨[.bool true], ⟨⟨kr, kr⟩, trivial⟩, ⟨rfl, H⟩⟩
  }
  }
def slices_Equal_Slot_l1 (K : Nat) (x0 : List GSlot) (x1 : List GSlot) : Nat → Int → Option Bool
  | 0, _ => none
  | k1 + 1, y13 =>
    if decide (y13 < (x0.length : Int)) then
      if 0 ≤ y13 ∧ y13 < x0.length then
        if 0 ≤ y13 ∧ y13 < x1.length then
          if !((((gd x0 y13).State) == ((gd x1 y13).State)) && (((((gd x0 y13).Kid.At) == ((gd x1 y13).Kid.At)) && ((((gd x0 y13).Kid.Gen) == ((gd x1 y13).Kid.Gen)) && true)) && (((((gd x0 y13).Out.Trap) == ((gd x1 y13).Out.Trap)) && (((((gd x0 y13).Out.V.Re) == ((gd x1 y13).Out.V.Re)) && ((((gd x0 y13).Out.V.Im) == ((gd x1 y13).Out.V.Im)) && true)) && true)) && true))) then
            some false
          else
            slices_Equal_Slot_l1 K x0 x1 k1 (w64 (y13 + 1))
        else none
      else none
    else
      some true
def slices_Equal_Slot (K : Nat) (x0 : List GSlot) (x1 : List GSlot) : Option Bool :=
  if (x0.length : Int) != (x1.length : Int) then
    some false
  else
    slices_Equal_Slot_l1 K x0 x1 K 0
set_option maxRecDepth 100000 in
set_option maxHeartbeats 4000000 in
theorem c_slices_Equal_Slot {w0 w : World} {h : Gh} {L : List Ent} (K : Nat) (x0 : List GSlot) {a1 : Option Addr} {c1 : Nat} (f1 : Sl rGSlot 48 h a1 c1 x0) (x1 : List GSlot) {a2 : Option Addr} {c2 : Nat} (f2 : Sl rGSlot 48 h a2 c2 x1) (H : St w0 h w L) {r : Bool} (hr : slices_Equal_Slot K x0 x1 = some r) : Calls Try.prog 41 #[.slice a1 x0.length c1, .slice a2 x1.length c2] w (fun e w' => ∃ v, e = .returned v ∧ v = .bool r ∧ St w0 h w' (L)) := by
  refine calls_of (args := [.slice a1 x0.length c1, .slice a2 x1.length c2]) (n := 26) (rs := [.tmp 4]) Try.func41 rfl rfl rfl rfl rfl ?_
  unfold slices_Equal_Slot at hr
  refine WE.seq ?_
  refine WE.region ?_
  refine WL.fin 1 kr kr ?_
  refine WE.seq ?_
  refine WE.seq ?_
  refine WE.region ?_
  refine WL.fin 5 kr kr ?_
  rcases ite_cases hr with ⟨t3, hr⟩ | ⟨t3, hr⟩
  {
  refine WE.yes kr (b := (x0.length : Int) != (x1.length : Int)) kr t3 ?_
  refine WE.seq ?_
  refine WE.region ?_
  refine WL.fin 1 kr kr ?_
  obtain rfl := Option.some.inj hr
  exact WE.ret ⟨[.bool false], ⟨⟨kr, kr⟩, trivial⟩, ⟨rfl, H⟩⟩
  }
  {
  refine WE.no kr (b := (x0.length : Int) != (x1.length : Int)) kr t3 ?_
  refine WE.skip ?_
  refine WE.seq ?_
  refine WE.seq ?_
  refine WE.region ?_
  refine WL.fin 3 kr kr ?_
  refine WE.block ?_
  refine WE.loop (LP.live [0, 1, 12, 13] kr (LP.rec (slices_Equal_Slot_l1 K x0 x1) (fun (y13 : Int) (_ : Unit) => [(0, .slice a1 x0.length c1), (1, .slice a2 x1.length c2), (12, .int .i64 (x0.length : Int)), (13, .int .i64 y13)]) (fun (y13 : Int) (_ : Unit) => fun w => St w0 h w (L)) r (fun _ => rfl) ?_ K 0 () _ H hr))
  rintro k1 ih1 y13 _ w H hr
  simp only [slices_Equal_Slot_l1] at hr
  refine WE.seq ?_
  refine WE.region ?_
  refine WL.fin 1 kr kr ?_
  refine WE.seq ?_
  rcases ite_cases hr with ⟨t14, hr⟩ | ⟨t14, hr⟩
  {
  refine WE.yes kr (b := decide (y13 < (x0.length : Int))) kr t14 ?_
  refine WE.skip ?_
  refine WE.seq ?_
  refine WE.block ?_
  refine WE.seq ?_
  refine WE.region ?_
  refine WL.fin 2 kr kr ?_
  refine WE.seq ?_
  refine WE.draws mo [0, 1, 5, 12, 13] (ρ' := [(0, .slice a1 x0.length c1), (1, .slice a2 x1.length c2), (5, .int .i64 y13), (12, .int .i64 (x0.length : Int)), (13, .int .i64 y13)]) kr fun w e1 e2 e3 e4 => ?_
  have H := H.same e1 e2 e3 e4
  clear e1 e2 e3 e4
  refine WD.know [0] kr ?_
  refine WD.know [1] kr ?_
  obtain ⟨⟨g0_15, g1_15⟩, hr⟩ := grd_cases hr
  obtain ⟨b15, p15, C15, e15, fr15, cs15, rfl, hb15, hc15, rfl⟩ := f1.at g0_15 g1_15
  refine WD.told 2 18 (.pointer (some ⟨b15, p15 + y13.toNat * 6, none⟩)) kr kr ?_
  refine WD.told 3 19 (.agg (cGSlot (⟨(gd x0 y13).State, (⟨(gd x0 y13).Kid.At, (gd x0 y13).Kid.Gen⟩ : GRef), (⟨(gd x0 y13).Out.Trap, (⟨(gd x0 y13).Out.V.Re, (gd x0 y13).Out.V.Im⟩ : GValue)⟩ : GOut)⟩ : GSlot)).toArray) kr kr ?_
  refine WD.know [4] kr ?_
  refine WD.know [5] kr ?_
  obtain ⟨⟨g0_16, g1_16⟩, hr⟩ := grd_cases hr
  obtain ⟨b16, p16, C16, e16, fr16, cs16, rfl, hb16, hc16, rfl⟩ := f2.at g0_16 g1_16
  refine WD.told 6 22 (.pointer (some ⟨b16, p16 + y13.toNat * 6, none⟩)) kr kr ?_
  refine WD.told 7 23 (.agg (cGSlot (⟨(gd x1 y13).State, (⟨(gd x1 y13).Kid.At, (gd x1 y13).Kid.Gen⟩ : GRef), (⟨(gd x1 y13).Out.Trap, (⟨(gd x1 y13).Out.V.Re, (gd x1 y13).Out.V.Im⟩ : GValue)⟩ : GOut)⟩ : GSlot)).toArray) kr kr ?_
  refine WD.told 8 24 (.bool (!((((gd x0 y13).State) == ((gd x1 y13).State)) && (((((gd x0 y13).Kid.At) == ((gd x1 y13).Kid.At)) && ((((gd x0 y13).Kid.Gen) == ((gd x1 y13).Kid.Gen)) && true)) && (((((gd x0 y13).Out.Trap) == ((gd x1 y13).Out.Trap)) && (((((gd x0 y13).Out.V.Re) == ((gd x1 y13).Out.V.Re)) && ((((gd x0 y13).Out.V.Im) == ((gd x1 y13).Out.V.Im)) && true)) && true)) && true))))) kr kr ?_
  refine WD.fin kr (Floats.of [5, 4, 1, 0] [8, 7, 6, 3, 2] kr (Floats.pure _ kr kr) (.cons (.tells rfl kr kr (.neq ((((gd x0 y13).State) == ((gd x1 y13).State)) && (((((gd x0 y13).Kid.At) == ((gd x1 y13).Kid.At)) && ((((gd x0 y13).Kid.Gen) == ((gd x1 y13).Kid.Gen)) && true)) && (((((gd x0 y13).Out.Trap) == ((gd x1 y13).Out.Trap)) && (((((gd x0 y13).Out.V.Re) == ((gd x1 y13).Out.V.Re)) && ((((gd x0 y13).Out.V.Im) == ((gd x1 y13).Out.V.Im)) && true)) && true)) && true))) kr kr kr)) (.cons (.tells rfl kr rfl (.loadR H hb16 hc16 0 kr kr)) (.cons (.tells rfl kr kr (.idx b16 (p16) x1.length c2 y13 6 kr kr g0_16 g1_16 kr)) (.cons (.tells rfl kr rfl (.loadR H hb15 hc15 0 kr kr)) (.cons (.tells rfl kr kr (.idx b15 (p15) x0.length c1 y13 6 kr kr g0_15 g1_15 kr)) .nil)))))) kr kr ?_
  rcases ite_cases hr with ⟨t17, hr⟩ | ⟨t17, hr⟩
  {
  refine WE.yes kr (b := !((((gd x0 y13).State) == ((gd x1 y13).State)) && (((((gd x0 y13).Kid.At) == ((gd x1 y13).Kid.At)) && ((((gd x0 y13).Kid.Gen) == ((gd x1 y13).Kid.Gen)) && true)) && (((((gd x0 y13).Out.Trap) == ((gd x1 y13).Out.Trap)) && (((((gd x0 y13).Out.V.Re) == ((gd x1 y13).Out.V.Re)) && ((((gd x0 y13).Out.V.Im) == ((gd x1 y13).Out.V.Im)) && true)) && true)) && true)))) kr t17 ?_
  refine WE.seq ?_
  refine WE.region ?_
  refine WL.fin 1 kr kr ?_
  obtain rfl := Option.some.inj hr
  exact WE.ret ⟨[.bool false], ⟨⟨kr, kr⟩, trivial⟩, ⟨rfl, H⟩⟩
  }
  {
  refine WE.no kr (b := !((((gd x0 y13).State) == ((gd x1 y13).State)) && (((((gd x0 y13).Kid.At) == ((gd x1 y13).Kid.At)) && ((((gd x0 y13).Kid.Gen) == ((gd x1 y13).Kid.Gen)) && true)) && (((((gd x0 y13).Out.Trap) == ((gd x1 y13).Out.Trap)) && (((((gd x0 y13).Out.V.Re) == ((gd x1 y13).Out.V.Re)) && ((((gd x0 y13).Out.V.Im) == ((gd x1 y13).Out.V.Im)) && true)) && true)) && true)))) kr t17 ?_
  refine WE.skip ?_
  refine WE.region ?_
  refine WL.fin 2 kr kr ?_
  exact LP.live [0, 1, 12, 13] kr (ih1 (w64 (y13 + 1)) () _ H hr)
  }
  }
  {
  refine WE.no kr (b := decide (y13 < (x0.length : Int))) kr t14 ?_
  refine WE.exit ?_
  refine WE.seq ?_
  refine WE.region ?_
  refine WL.fin 1 kr kr ?_
  obtain rfl := Option.some.inj hr
  exact WE.ret ⟨[.bool true], ⟨⟨kr, kr⟩, trivial⟩, ⟨rfl, H⟩⟩
  }
  }
def frame_Same (K : Nat) (x0 : GFrame) (x1 : GFrame) : Option Bool :=
  (slices_Equal_Value K x0.Stack x1.Stack).bind fun y9 =>
  (
      if !y9 then
        some true
      else
        (slices_Equal_Value K x0.Locals x1.Locals).bind fun y25 =>
        some (!y25)).bind fun y10 =>
  (
      if y10 then
        some true
      else
        (slices_Equal_Slot K x0.Slots x1.Slots).bind fun y24 =>
        some (!y24)).bind fun y12 =>
  if y12 then
    some false
  else
    bnd (
        if x0.Fn == x1.Fn then
          x0.Pc == x1.Pc
        else
          false) fun y15 =>
    bnd (
        if y15 then
          x0.Seed == x1.Seed
        else
          false) fun y16 =>
    bnd (
        if y16 then
          x0.Spawned == x1.Spawned
        else
          false) fun y17 =>
    bnd (
        if y17 then
          x0.Draws == x1.Draws
        else
          false) fun y18 =>
    bnd (
        if y18 then
          x0.State == x1.State
        else
          false) fun y19 =>
    bnd (
        if y19 then
          x0.Wait == x1.Wait
        else
          false) fun y20 =>
    bnd (
        if y20 then
          (x0.Out.Trap == x1.Out.Trap) && (((x0.Out.V.Re == x1.Out.V.Re) && ((x0.Out.V.Im == x1.Out.V.Im) && true)) && true)
        else
          false) fun y21 =>
    bnd (
        if y21 then
          (x0.Up.At == x1.Up.At) && ((x0.Up.Gen == x1.Up.Gen) && true)
        else
          false) fun y22 =>
    bnd (
        if y22 then
          x0.UpSlot == x1.UpSlot
        else
          false) fun y23 =>
    some y23
set_option maxRecDepth 100000 in
set_option maxHeartbeats 4000000 in
theorem c_frame_Same {w0 w : World} {h : Gh} {L : List Ent} (K : Nat) (x0 : GFrame) {a1 : Option Addr} {c1 : Nat} {a2 : Option Addr} {c2 : Nat} {a3 : Option Addr} {c3 : Nat} (f1 : Sl rGValue 16 h a1 c1 x0.Stack) (f2 : Sl rGValue 16 h a2 c2 x0.Locals) (f3 : Sl rGSlot 48 h a3 c3 x0.Slots) (x1 : GFrame) {a4 : Option Addr} {c4 : Nat} {a5 : Option Addr} {c5 : Nat} {a6 : Option Addr} {c6 : Nat} (f4 : Sl rGValue 16 h a4 c4 x1.Stack) (f5 : Sl rGValue 16 h a5 c5 x1.Locals) (f6 : Sl rGSlot 48 h a6 c6 x1.Slots) (H : St w0 h w L) {r : Bool} (hr : frame_Same K x0 x1 = some r) : Calls Try.prog 18 #[.agg (cGFrame x0 a1 c1 a2 c2 a3 c3).toArray, .agg (cGFrame x1 a4 c4 a5 c5 a6 c6).toArray] w (fun e w' => ∃ v, e = .returned v ∧ v = .bool r ∧ St w0 h w' (L)) := by
  refine calls_of (args := [.agg (cGFrame x0 a1 c1 a2 c2 a3 c3).toArray, .agg (cGFrame x1 a4 c4 a5 c5 a6 c6).toArray]) (n := 95) (rs := [.tmp 4]) Try.func18 rfl rfl rfl rfl rfl ?_
  unfold frame_Same at hr
  refine WE.seq ?_
  refine WE.region ?_
  refine WL.does kr kr (Does.box H (cGFrame x0 a1 c1 a2 c2 a3 c3) kr fun b7 w H => ?_)
  refine WL.does kr kr (Does.box H (cGFrame x1 a4 c4 a5 c5 a6 c6) kr fun b8 w H => ?_)
  refine WL.fin 1 kr kr ?_
  refine WE.seq ?_
  refine WE.seq ?_
  refine WE.region ?_
  refine WL.sg 1 kr ?_
  refine WL.does kr kr (Does.loadV H 1 rfl 2 kr kr ?_)
  refine WL.sg 1 kr ?_
  refine WL.does kr kr (Does.loadV H 0 rfl 2 kr kr ?_)
  obtain ⟨y9, q9, hr⟩ := bind_cases hr
  refine WL.does kr kr (Does.call (c_slices_Equal_Value K x0.Stack f1 x1.Stack f4 H q9) kr ?_)
  rintro _ w ⟨rfl, H⟩
  refine WL.sg 2 kr ?_
  obtain ⟨y10, hy10, hr⟩ := bind_cases hr
  refine WL.join 7 (fun (_ : Unit) => [(2, .pointer (some ⟨b7, 0, none⟩)), (3, .pointer (some ⟨b8, 0, none⟩)), (18, .bool y10)]) (fun (_ : Unit) w => St w0 h w (var b8 (cGFrame x1 a4 c4 a5 c5 a6 c6) 40 :: var b7 (cGFrame x0 a1 c1 a2 c2 a3 c3) 40 :: L)) ?_ (fun hk_y10 => ?_)
  {
  rintro _ w H
  refine WL.sg 1 kr ?_
  obtain ⟨y12, hy12, hr⟩ := bind_cases hr
  refine WL.join 7 (fun (_ : Unit) => [(2, .pointer (some ⟨b7, 0, none⟩)), (3, .pointer (some ⟨b8, 0, none⟩)), (26, .bool y12)]) (fun (_ : Unit) w => St w0 h w (var b8 (cGFrame x1 a4 c4 a5 c5 a6 c6) 40 :: var b7 (cGFrame x0 a1 c1 a2 c2 a3 c3) 40 :: L)) ?_ (fun hk_y12 => ?_)
  {
  rintro _ w H
  refine WL.fin 0 kr kr ?_
  rcases ite_cases hr with ⟨t14, hr⟩ | ⟨t14, hr⟩
  {
  refine WE.yes kr (b := y12) kr t14 ?_
  refine WE.seq ?_
  refine WE.region ?_
  refine WL.fin 1 kr kr ?_
  obtain rfl := Option.some.inj hr
  exact WE.ret ⟨[.bool false], ⟨⟨kr, kr⟩, trivial⟩, ⟨rfl, (H.keep 2)⟩⟩
  }
  {
  refine WE.no kr (b := y12) kr t14 ?_
  refine WE.skip ?_
  refine WE.seq ?_
  refine WE.region ?_
  refine WL.sg 1 kr ?_
  refine WL.does kr kr (Does.loadV H 1 rfl 0 kr kr ?_)
  refine WL.sg 1 kr ?_
  refine WL.does kr kr (Does.loadV H 0 rfl 0 kr kr ?_)
  refine WL.sg 2 kr ?_
  obtain ⟨y15, hy15, hr⟩ := bnd_cases hr
  refine WL.join 6 (fun (_ : Unit) => [(2, .pointer (some ⟨b7, 0, none⟩)), (3, .pointer (some ⟨b8, 0, none⟩)), (38, .bool y15)]) (fun (_ : Unit) w => St w0 h w (var b8 (cGFrame x1 a4 c4 a5 c5 a6 c6) 40 :: var b7 (cGFrame x0 a1 c1 a2 c2 a3 c3) 40 :: L)) ?_ (fun hk_y15 => ?_)
  {
  rintro _ w H
  refine WL.sg 1 kr ?_
  obtain ⟨y16, hy16, hr⟩ := bnd_cases hr
  refine WL.join 6 (fun (_ : Unit) => [(2, .pointer (some ⟨b7, 0, none⟩)), (3, .pointer (some ⟨b8, 0, none⟩)), (45, .bool y16)]) (fun (_ : Unit) w => St w0 h w (var b8 (cGFrame x1 a4 c4 a5 c5 a6 c6) 40 :: var b7 (cGFrame x0 a1 c1 a2 c2 a3 c3) 40 :: L)) ?_ (fun hk_y16 => ?_)
  {
  rintro _ w H
  refine WL.sg 1 kr ?_
  obtain ⟨y17, hy17, hr⟩ := bnd_cases hr
  refine WL.join 6 (fun (_ : Unit) => [(2, .pointer (some ⟨b7, 0, none⟩)), (3, .pointer (some ⟨b8, 0, none⟩)), (52, .bool y17)]) (fun (_ : Unit) w => St w0 h w (var b8 (cGFrame x1 a4 c4 a5 c5 a6 c6) 40 :: var b7 (cGFrame x0 a1 c1 a2 c2 a3 c3) 40 :: L)) ?_ (fun hk_y17 => ?_)
  {
  rintro _ w H
  refine WL.sg 1 kr ?_
  obtain ⟨y18, hy18, hr⟩ := bnd_cases hr
  refine WL.join 6 (fun (_ : Unit) => [(2, .pointer (some ⟨b7, 0, none⟩)), (3, .pointer (some ⟨b8, 0, none⟩)), (59, .bool y18)]) (fun (_ : Unit) w => St w0 h w (var b8 (cGFrame x1 a4 c4 a5 c5 a6 c6) 40 :: var b7 (cGFrame x0 a1 c1 a2 c2 a3 c3) 40 :: L)) ?_ (fun hk_y18 => ?_)
  {
  rintro _ w H
  refine WL.sg 1 kr ?_
  obtain ⟨y19, hy19, hr⟩ := bnd_cases hr
  refine WL.join 6 (fun (_ : Unit) => [(2, .pointer (some ⟨b7, 0, none⟩)), (3, .pointer (some ⟨b8, 0, none⟩)), (66, .bool y19)]) (fun (_ : Unit) w => St w0 h w (var b8 (cGFrame x1 a4 c4 a5 c5 a6 c6) 40 :: var b7 (cGFrame x0 a1 c1 a2 c2 a3 c3) 40 :: L)) ?_ (fun hk_y19 => ?_)
  {
  rintro _ w H
  refine WL.sg 1 kr ?_
  obtain ⟨y20, hy20, hr⟩ := bnd_cases hr
  refine WL.join 6 (fun (_ : Unit) => [(2, .pointer (some ⟨b7, 0, none⟩)), (3, .pointer (some ⟨b8, 0, none⟩)), (73, .bool y20)]) (fun (_ : Unit) w => St w0 h w (var b8 (cGFrame x1 a4 c4 a5 c5 a6 c6) 40 :: var b7 (cGFrame x0 a1 c1 a2 c2 a3 c3) 40 :: L)) ?_ (fun hk_y20 => ?_)
  {
  rintro _ w H
  refine WL.sg 1 kr ?_
  obtain ⟨y21, hy21, hr⟩ := bnd_cases hr
  refine WL.join 6 (fun (_ : Unit) => [(2, .pointer (some ⟨b7, 0, none⟩)), (3, .pointer (some ⟨b8, 0, none⟩)), (80, .bool y21)]) (fun (_ : Unit) w => St w0 h w (var b8 (cGFrame x1 a4 c4 a5 c5 a6 c6) 40 :: var b7 (cGFrame x0 a1 c1 a2 c2 a3 c3) 40 :: L)) ?_ (fun hk_y21 => ?_)
  {
  rintro _ w H
  refine WL.sg 1 kr ?_
  obtain ⟨y22, hy22, hr⟩ := bnd_cases hr
  refine WL.join 6 (fun (_ : Unit) => [(2, .pointer (some ⟨b7, 0, none⟩)), (3, .pointer (some ⟨b8, 0, none⟩)), (87, .bool y22)]) (fun (_ : Unit) w => St w0 h w (var b8 (cGFrame x1 a4 c4 a5 c5 a6 c6) 40 :: var b7 (cGFrame x0 a1 c1 a2 c2 a3 c3) 40 :: L)) ?_ (fun hk_y22 => ?_)
  {
  rintro _ w H
  refine WL.sg 1 kr ?_
  obtain ⟨y23, hy23, hr⟩ := bnd_cases hr
  refine WL.join 6 (fun (_ : Unit) => [(94, .bool y23)]) (fun (_ : Unit) w => St w0 h w (var b8 (cGFrame x1 a4 c4 a5 c5 a6 c6) 40 :: var b7 (cGFrame x0 a1 c1 a2 c2 a3 c3) 40 :: L)) ?_ (fun hk_y23 => ?_)
  {
  rintro _ w H
  refine WL.fin 1 kr kr ?_
  obtain rfl := Option.some.inj hr
  exact WE.ret ⟨[.bool y23], ⟨⟨kr, kr⟩, trivial⟩, ⟨rfl, (H.keep 2)⟩⟩
  }
  rcases ite_cases hy23 with ⟨ty23, hy23⟩ | ⟨ty23, hy23⟩
  {
  refine WL.known 88 ty23 kr kr ?_
  refine WL.sg 1 kr ?_
  refine WL.does kr kr (Does.loadV H 1 rfl 15 kr kr ?_)
  refine WL.sg 1 kr ?_
  refine WL.does kr kr (Does.loadV H 0 rfl 15 kr kr ?_)
  refine WL.sg 2 kr ?_
  obtain rfl := hy23
  exact WL.live [94] kr (hk_y23 () _ H)
  }
  {
  refine WL.known 88 ty23 kr kr ?_
  refine WL.sg 6 kr ?_
  obtain rfl := hy23
  exact WL.live [94] kr (hk_y23 () _ H)
  }
  }
  rcases ite_cases hy22 with ⟨ty22, hy22⟩ | ⟨ty22, hy22⟩
  {
  refine WL.known 81 ty22 kr kr ?_
  refine WL.sg 1 kr ?_
  refine WL.does kr kr (Does.loadV H 1 rfl 13 kr kr ?_)
  refine WL.sg 1 kr ?_
  refine WL.does kr kr (Does.loadV H 0 rfl 13 kr kr ?_)
  refine WL.does kr kr (Does.tells (.eql ((x0.Up.At == x1.Up.At) && ((x0.Up.Gen == x1.Up.Gen) && true)) kr kr kr) ?_)
  refine WL.sg 1 kr ?_
  obtain rfl := hy22
  exact WL.live [2, 3, 87] kr (hk_y22 () _ H)
  }
  {
  refine WL.known 81 ty22 kr kr ?_
  refine WL.sg 6 kr ?_
  obtain rfl := hy22
  exact WL.live [2, 3, 87] kr (hk_y22 () _ H)
  }
  }
  rcases ite_cases hy21 with ⟨ty21, hy21⟩ | ⟨ty21, hy21⟩
  {
  refine WL.known 74 ty21 kr kr ?_
  refine WL.sg 1 kr ?_
  refine WL.does kr kr (Does.loadV H 1 rfl 10 kr kr ?_)
  refine WL.sg 1 kr ?_
  refine WL.does kr kr (Does.loadV H 0 rfl 10 kr kr ?_)
  refine WL.does kr kr (Does.tells (.eql ((x0.Out.Trap == x1.Out.Trap) && (((x0.Out.V.Re == x1.Out.V.Re) && ((x0.Out.V.Im == x1.Out.V.Im) && true)) && true)) kr kr kr) ?_)
  refine WL.sg 1 kr ?_
  obtain rfl := hy21
  exact WL.live [2, 3, 80] kr (hk_y21 () _ H)
  }
  {
  refine WL.known 74 ty21 kr kr ?_
  refine WL.sg 6 kr ?_
  obtain rfl := hy21
  exact WL.live [2, 3, 80] kr (hk_y21 () _ H)
  }
  }
  rcases ite_cases hy20 with ⟨ty20, hy20⟩ | ⟨ty20, hy20⟩
  {
  refine WL.known 67 ty20 kr kr ?_
  refine WL.sg 1 kr ?_
  refine WL.does kr kr (Does.loadV H 1 rfl 9 kr kr ?_)
  refine WL.sg 1 kr ?_
  refine WL.does kr kr (Does.loadV H 0 rfl 9 kr kr ?_)
  refine WL.sg 2 kr ?_
  obtain rfl := hy20
  exact WL.live [2, 3, 73] kr (hk_y20 () _ H)
  }
  {
  refine WL.known 67 ty20 kr kr ?_
  refine WL.sg 6 kr ?_
  obtain rfl := hy20
  exact WL.live [2, 3, 73] kr (hk_y20 () _ H)
  }
  }
  rcases ite_cases hy19 with ⟨ty19, hy19⟩ | ⟨ty19, hy19⟩
  {
  refine WL.known 60 ty19 kr kr ?_
  refine WL.sg 1 kr ?_
  refine WL.does kr kr (Does.loadV H 1 rfl 8 kr kr ?_)
  refine WL.sg 1 kr ?_
  refine WL.does kr kr (Does.loadV H 0 rfl 8 kr kr ?_)
  refine WL.sg 2 kr ?_
  obtain rfl := hy19
  exact WL.live [2, 3, 66] kr (hk_y19 () _ H)
  }
  {
  refine WL.known 60 ty19 kr kr ?_
  refine WL.sg 6 kr ?_
  obtain rfl := hy19
  exact WL.live [2, 3, 66] kr (hk_y19 () _ H)
  }
  }
  rcases ite_cases hy18 with ⟨ty18, hy18⟩ | ⟨ty18, hy18⟩
  {
  refine WL.known 53 ty18 kr kr ?_
  refine WL.sg 1 kr ?_
  refine WL.does kr kr (Does.loadV H 1 rfl 7 kr kr ?_)
  refine WL.sg 1 kr ?_
  refine WL.does kr kr (Does.loadV H 0 rfl 7 kr kr ?_)
  refine WL.sg 2 kr ?_
  obtain rfl := hy18
  exact WL.live [2, 3, 59] kr (hk_y18 () _ H)
  }
  {
  refine WL.known 53 ty18 kr kr ?_
  refine WL.sg 6 kr ?_
  obtain rfl := hy18
  exact WL.live [2, 3, 59] kr (hk_y18 () _ H)
  }
  }
  rcases ite_cases hy17 with ⟨ty17, hy17⟩ | ⟨ty17, hy17⟩
  {
  refine WL.known 46 ty17 kr kr ?_
  refine WL.sg 1 kr ?_
  refine WL.does kr kr (Does.loadV H 1 rfl 6 kr kr ?_)
  refine WL.sg 1 kr ?_
  refine WL.does kr kr (Does.loadV H 0 rfl 6 kr kr ?_)
  refine WL.sg 2 kr ?_
  obtain rfl := hy17
  exact WL.live [2, 3, 52] kr (hk_y17 () _ H)
  }
  {
  refine WL.known 46 ty17 kr kr ?_
  refine WL.sg 6 kr ?_
  obtain rfl := hy17
  exact WL.live [2, 3, 52] kr (hk_y17 () _ H)
  }
  }
  rcases ite_cases hy16 with ⟨ty16, hy16⟩ | ⟨ty16, hy16⟩
  {
  refine WL.known 39 ty16 kr kr ?_
  refine WL.sg 1 kr ?_
  refine WL.does kr kr (Does.loadV H 1 rfl 5 kr kr ?_)
  refine WL.sg 1 kr ?_
  refine WL.does kr kr (Does.loadV H 0 rfl 5 kr kr ?_)
  refine WL.sg 2 kr ?_
  obtain rfl := hy16
  exact WL.live [2, 3, 45] kr (hk_y16 () _ H)
  }
  {
  refine WL.known 39 ty16 kr kr ?_
  refine WL.sg 6 kr ?_
  obtain rfl := hy16
  exact WL.live [2, 3, 45] kr (hk_y16 () _ H)
  }
  }
  rcases ite_cases hy15 with ⟨ty15, hy15⟩ | ⟨ty15, hy15⟩
  {
  refine WL.known 32 ty15 kr kr ?_
  refine WL.sg 1 kr ?_
  refine WL.does kr kr (Does.loadV H 1 rfl 1 kr kr ?_)
  refine WL.sg 1 kr ?_
  refine WL.does kr kr (Does.loadV H 0 rfl 1 kr kr ?_)
  refine WL.sg 2 kr ?_
  obtain rfl := hy15
  exact WL.live [2, 3, 38] kr (hk_y15 () _ H)
  }
  {
  refine WL.known 32 ty15 kr kr ?_
  refine WL.sg 6 kr ?_
  obtain rfl := hy15
  exact WL.live [2, 3, 38] kr (hk_y15 () _ H)
  }
  }
  }
  rcases ite_cases hy12 with ⟨ty12, hy12⟩ | ⟨ty12, hy12⟩
  {
  refine WL.known 19 ty12 kr kr ?_
  refine WL.sg 7 kr ?_
  obtain rfl := Option.some.inj hy12
  exact WL.live [2, 3, 26] kr (hk_y12 () _ H)
  }
  {
  refine WL.known 19 ty12 kr kr ?_
  refine WL.sg 1 kr ?_
  refine WL.does kr kr (Does.loadV H 1 rfl 4 kr kr ?_)
  refine WL.sg 1 kr ?_
  refine WL.does kr kr (Does.loadV H 0 rfl 4 kr kr ?_)
  obtain ⟨y24, q24, hy12⟩ := bind_cases hy12
  refine WL.does kr kr (Does.call (c_slices_Equal_Slot K x0.Slots f3 x1.Slots f6 H q24) kr ?_)
  rintro _ w ⟨rfl, H⟩
  refine WL.sg 2 kr ?_
  obtain rfl := Option.some.inj hy12
  exact WL.live [2, 3, 26] kr (hk_y12 () _ H)
  }
  }
  rcases ite_cases hy10 with ⟨ty10, hy10⟩ | ⟨ty10, hy10⟩
  {
  refine WL.known 11 ty10 kr kr ?_
  refine WL.sg 7 kr ?_
  obtain rfl := Option.some.inj hy10
  exact WL.live [2, 3, 18] kr (hk_y10 () _ H)
  }
  {
  refine WL.known 11 ty10 kr kr ?_
  refine WL.sg 1 kr ?_
  refine WL.does kr kr (Does.loadV H 1 rfl 3 kr kr ?_)
  refine WL.sg 1 kr ?_
  refine WL.does kr kr (Does.loadV H 0 rfl 3 kr kr ?_)
  obtain ⟨y25, q25, hy10⟩ := bind_cases hy10
  refine WL.does kr kr (Does.call (c_slices_Equal_Value K x0.Locals f2 x1.Locals f5 H q25) kr ?_)
  rintro _ w ⟨rfl, H⟩
  refine WL.sg 2 kr ?_
  obtain rfl := Option.some.inj hy10
  exact WL.live [2, 3, 18] kr (hk_y10 () _ H)
  }
end Go.Proofs.Ytcoepljalekglaa.FrameSafe.W
