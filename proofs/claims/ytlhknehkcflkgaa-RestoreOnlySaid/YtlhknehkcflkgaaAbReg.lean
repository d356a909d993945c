/- The registry: which Lean type stands for which Go type, how a value is laid into cells and taken out of them, what the type table says. -/
import Derived.Test.YtlhknehkcflkgaaAbDef
import Derived.Test.YtlhknehkcflkgaaAbTy
set_option autoImplicit false
set_option maxRecDepth 100000
namespace Go.Proofs.Ytlhknehkcflkgaa
open Go Ab
def al : TypeId → Type
  | 2 => Int
  | 3 => Int
  | 4 => Bool
  | 5 => Int
  | 6 => Int
  | 9 => ByteArray
  | 10 => ByteArray
  | 11 => ByteArray
  | 12 => Int
  | 21 => Int
  | 22 => List Int
  | 23 => List T.Cut
  | 24 => List T.Span
  | 27 => T.Span
  | 28 => List T.Place
  | 29 => List T.Road
  | 31 => T.Mine
  | 32 => List T.Fan
  | 33 => List T.Door
  | 35 => T.Air
  | 36 => List T.Sensor
  | 37 => List T.Cond
  | 38 => List T.Zone
  | 39 => List T.Person
  | 41 => T.Site
  | 42 => List T.Switch
  | 43 => List Int
  | 45 => T.Feeder
  | 47 => T.law21_scene
  | 52 => Int
  | 56 => T.Restoring
  | 58 => List T.law21_step
  | 61 => T.law21_step
  | 65 => T.Person
  | 71 => T.Cut
  | 76 => T.Switch
  | 81 => Int
  | 85 => List T.RuleNode
  | 87 => T.Zone
  | 89 => T.Road
  | 94 => T.Setting
  | 96 => T.State
  | 102 => T.draw_Codes
  | 108 => T.Place
  | 110 => T.Sensor
  | 112 => T.Level
  | 114 => T.Cond
  | 116 => T.RuleNode
  | 126 => List Bool
  | 144 => List T.Point
  | 147 => T.Fan
  | 149 => T.Door
  | 168 => T.Point
  | 186 => Int
  | 187 => Int
  | 188 => Int
  | 191 => Int
  | 192 => Int
  | _ => Unit
def pk : (e : TypeId) → al e → List (Lf al)
  | 2, x => [.int .i64 x]
  | 3, x => [.int .i64 x]
  | 4, x => [.bool x]
  | 5, x => [.int .u8 x]
  | 6, x => [.int .u8 x]
  | 9, x => [.str x]
  | 10, x => [.str x]
  | 11, x => [.str x]
  | 12, x => [.int .u64 x]
  | 21, x => [.int .i32 x]
  | 22, x => [.sl 5 x]
  | 23, x => [.sl 71 x]
  | 24, x => [.sl 27 x]
  | 27, x => [.int .i64 x.Low, .int .i64 x.High]
  | 28, x => [.sl 108 x]
  | 29, x => [.sl 89 x]
  | 31, x => [.sl 108 x.Places, .sl 89 x.Roads]
  | 32, x => [.sl 147 x]
  | 33, x => [.sl 149 x]
  | 35, x => [.sl 108 x.Mine.Places, .sl 89 x.Mine.Roads, .sl 147 x.Fans, .sl 149 x.Doors]
  | 36, x => [.sl 110 x]
  | 37, x => [.sl 114 x]
  | 38, x => [.sl 87 x]
  | 39, x => [.sl 65 x]
  | 41, x => [.sl 108 x.Air.Mine.Places, .sl 89 x.Air.Mine.Roads, .sl 147 x.Air.Fans, .sl 149 x.Air.Doors, .sl 110 x.Sensors, .sl 114 x.Conds, .sl 87 x.Zones, .sl 65 x.Persons]
  | 42, x => [.sl 76 x]
  | 43, x => [.sl 3 x]
  | 45, x => [.sl 76 x.Switches, .sl 3 x.Zones, .int .i64 x.Reply]
  | 47, x => [.sl 108 x.site.Air.Mine.Places, .sl 89 x.site.Air.Mine.Roads, .sl 147 x.site.Air.Fans, .sl 149 x.site.Air.Doors, .sl 110 x.site.Sensors, .sl 114 x.site.Conds, .sl 87 x.site.Zones, .sl 65 x.site.Persons, .sl 71 x.cuts, .sl 27 x.flows, .sl 76 x.feeder.Switches, .sl 3 x.feeder.Zones, .int .i64 x.feeder.Reply]
  | 52, x => [.int .i64 x]
  | 56, x => [.int .i64 x.Zone, .int .i64 x.First, .int .i64 x.Second, .int .i64 x.Step, .int .i64 x.Time]
  | 58, x => [.sl 61 x]
  | 61, x => [.int .i64 x.kind, .int .i64 x.person, .int .i64 x.zone, .int .i64 x.wait]
  | 65, x => [.int .i64 x.Role]
  | 71, x => [.bool x.Off, .int .i64 x.Clear, .int .i64 x.Reason]
  | 76, x => [.int .i64 x.Above, .int .i64 x.Since, .int .i64 x.Shown, .bool x.Closed, .bool x.Late]
  | 81, x => [.int .u16 x]
  | 85, x => [.sl 116 x]
  | 87, x => [.sl 116 x.Rule, .int .i64 x.Hold, .sl 3 x.Roads, .int .i64 x.Fresh]
  | 89, x => [.int .i64 x.From, .int .i64 x.To, .int .i64 x.Length, .int .i64 x.Area, .bool x.Walk, .bool x.Closed, .int .i64 x.Rest.Low, .int .i64 x.Rest.High, .int .i64 x.Lift.Low, .int .i64 x.Lift.High]
  | 94, x => [.sl 3 x.Fans, .sl 3 x.Doors]
  | 96, x => [.sl 3 x.Pressures, .sl 3 x.Flows]
  | 102, x => [.sl 5 x.l, .int .i64 x.at_]
  | 108, x => [.int .i64 x.Height, .bool x.Surface]
  | 110, x => [.int .i64 x.Address, .int .i64 x.Kind, .int .i64 x.Target, .int .i64 x.Offset, .int .i64 x.Scale, .int .i64 x.Error, .int .i64 x.Drift, .int .i64 x.Life]
  | 112, x => [.int .i64 x.Cut, .int .i64 x.Clear, .int .i64 x.Delay]
  | 114, x => [.int .i64 x.Kind, .int .i64 x.Target, .int .i64 x.Value, .int .i64 x.Level.Cut, .int .i64 x.Level.Clear, .int .i64 x.Level.Delay]
  | 116, x => [.int .i64 x.Kind, .int .i64 x.Cond, .int .i64 x.Left, .int .i64 x.Right]
  | 126, x => [.sl 4 x]
  | 144, x => [.sl 168 x]
  | 147, x => [.int .i64 x.Road, .bool x.Back, .bool x.Auxiliary, .sl 168 x.Curve]
  | 149, x => [.int .i64 x.Road, .int .i64 x.Other, .sl 3 x.Rests]
  | 168, x => [.int .i64 x.Flow, .int .i64 x.Pressure]
  | 186, x => [.int .u32 x]
  | 187, x => [.int .u8 x]
  | 188, x => [.int .u8 x]
  | 191, x => [.int .i32 x]
  | 192, x => [.int .i32 x]
  | _, _ => []
def asSl (e : TypeId) : Lf al → Option (List (al e))
  | .nil => some []
  | .sl e' xs => if h : e' = e then some (h ▸ xs) else none
  | _ => none
def uInt {β : Type} (k : IntKind) (cs : List (Lf al)) (f : Int → List (Lf al) → Option β) : Option β :=
  match cs with | .int k' n :: r => bif decide (k' = k) then f n r else none | _ => none
def uBool {β : Type} (cs : List (Lf al)) (f : Bool → List (Lf al) → Option β) : Option β :=
  match cs with | .bool b :: r => f b r | _ => none
def uStr {β : Type} (cs : List (Lf al)) (f : ByteArray → List (Lf al) → Option β) : Option β :=
  match cs with | .str b :: r => f b r | _ => none
def uSl {β : Type} (e : TypeId) (cs : List (Lf al)) (f : List (al e) → List (Lf al) → Option β) : Option β :=
  match cs with | l :: r => (match asSl e l with | some xs => f xs r | none => none) | _ => none
def uEnd {β : Type} (cs : List (Lf al)) (b : β) : Option β := match cs with | [] => some b | _ => none
def unpk : (e : TypeId) → List (Lf al) → Option (al e)
  | 2, cs => uInt .i64 cs fun a0 cs => uEnd cs a0
  | 3, cs => uInt .i64 cs fun a0 cs => uEnd cs a0
  | 4, cs => uBool cs fun a0 cs => uEnd cs a0
  | 5, cs => uInt .u8 cs fun a0 cs => uEnd cs a0
  | 6, cs => uInt .u8 cs fun a0 cs => uEnd cs a0
  | 9, cs => uStr cs fun a0 cs => uEnd cs a0
  | 10, cs => uStr cs fun a0 cs => uEnd cs a0
  | 11, cs => uStr cs fun a0 cs => uEnd cs a0
  | 12, cs => uInt .u64 cs fun a0 cs => uEnd cs a0
  | 21, cs => uInt .i32 cs fun a0 cs => uEnd cs a0
  | 22, cs => uSl 5 cs fun a0 cs => uEnd cs a0
  | 23, cs => uSl 71 cs fun a0 cs => uEnd cs a0
  | 24, cs => uSl 27 cs fun a0 cs => uEnd cs a0
  | 27, cs => uInt .i64 cs fun a0 cs => uInt .i64 cs fun a1 cs => uEnd cs (⟨a0, a1⟩ : T.Span)
  | 28, cs => uSl 108 cs fun a0 cs => uEnd cs a0
  | 29, cs => uSl 89 cs fun a0 cs => uEnd cs a0
  | 31, cs => uSl 108 cs fun a0 cs => uSl 89 cs fun a1 cs => uEnd cs (⟨a0, a1⟩ : T.Mine)
  | 32, cs => uSl 147 cs fun a0 cs => uEnd cs a0
  | 33, cs => uSl 149 cs fun a0 cs => uEnd cs a0
  | 35, cs => uSl 108 cs fun a0 cs => uSl 89 cs fun a1 cs => uSl 147 cs fun a2 cs => uSl 149 cs fun a3 cs => uEnd cs (⟨(⟨a0, a1⟩ : T.Mine), a2, a3⟩ : T.Air)
  | 36, cs => uSl 110 cs fun a0 cs => uEnd cs a0
  | 37, cs => uSl 114 cs fun a0 cs => uEnd cs a0
  | 38, cs => uSl 87 cs fun a0 cs => uEnd cs a0
  | 39, cs => uSl 65 cs fun a0 cs => uEnd cs a0
  | 41, cs => uSl 108 cs fun a0 cs => uSl 89 cs fun a1 cs => uSl 147 cs fun a2 cs => uSl 149 cs fun a3 cs => uSl 110 cs fun a4 cs => uSl 114 cs fun a5 cs => uSl 87 cs fun a6 cs => uSl 65 cs fun a7 cs => uEnd cs (⟨(⟨(⟨a0, a1⟩ : T.Mine), a2, a3⟩ : T.Air), a4, a5, a6, a7⟩ : T.Site)
  | 42, cs => uSl 76 cs fun a0 cs => uEnd cs a0
  | 43, cs => uSl 3 cs fun a0 cs => uEnd cs a0
  | 45, cs => uSl 76 cs fun a0 cs => uSl 3 cs fun a1 cs => uInt .i64 cs fun a2 cs => uEnd cs (⟨a0, a1, a2⟩ : T.Feeder)
  | 47, cs => uSl 108 cs fun a0 cs => uSl 89 cs fun a1 cs => uSl 147 cs fun a2 cs => uSl 149 cs fun a3 cs => uSl 110 cs fun a4 cs => uSl 114 cs fun a5 cs => uSl 87 cs fun a6 cs => uSl 65 cs fun a7 cs => uSl 71 cs fun a8 cs => uSl 27 cs fun a9 cs => uSl 76 cs fun a10 cs => uSl 3 cs fun a11 cs => uInt .i64 cs fun a12 cs => uEnd cs (⟨(⟨(⟨(⟨a0, a1⟩ : T.Mine), a2, a3⟩ : T.Air), a4, a5, a6, a7⟩ : T.Site), a8, a9, (⟨a10, a11, a12⟩ : T.Feeder)⟩ : T.law21_scene)
  | 52, cs => uInt .i64 cs fun a0 cs => uEnd cs a0
  | 56, cs => uInt .i64 cs fun a0 cs => uInt .i64 cs fun a1 cs => uInt .i64 cs fun a2 cs => uInt .i64 cs fun a3 cs => uInt .i64 cs fun a4 cs => uEnd cs (⟨a0, a1, a2, a3, a4⟩ : T.Restoring)
  | 58, cs => uSl 61 cs fun a0 cs => uEnd cs a0
  | 61, cs => uInt .i64 cs fun a0 cs => uInt .i64 cs fun a1 cs => uInt .i64 cs fun a2 cs => uInt .i64 cs fun a3 cs => uEnd cs (⟨a0, a1, a2, a3⟩ : T.law21_step)
  | 65, cs => uInt .i64 cs fun a0 cs => uEnd cs (⟨a0⟩ : T.Person)
  | 71, cs => uBool cs fun a0 cs => uInt .i64 cs fun a1 cs => uInt .i64 cs fun a2 cs => uEnd cs (⟨a0, a1, a2⟩ : T.Cut)
  | 76, cs => uInt .i64 cs fun a0 cs => uInt .i64 cs fun a1 cs => uInt .i64 cs fun a2 cs => uBool cs fun a3 cs => uBool cs fun a4 cs => uEnd cs (⟨a0, a1, a2, a3, a4⟩ : T.Switch)
  | 81, cs => uInt .u16 cs fun a0 cs => uEnd cs a0
  | 85, cs => uSl 116 cs fun a0 cs => uEnd cs a0
  | 87, cs => uSl 116 cs fun a0 cs => uInt .i64 cs fun a1 cs => uSl 3 cs fun a2 cs => uInt .i64 cs fun a3 cs => uEnd cs (⟨a0, a1, a2, a3⟩ : T.Zone)
  | 89, cs => uInt .i64 cs fun a0 cs => uInt .i64 cs fun a1 cs => uInt .i64 cs fun a2 cs => uInt .i64 cs fun a3 cs => uBool cs fun a4 cs => uBool cs fun a5 cs => uInt .i64 cs fun a6 cs => uInt .i64 cs fun a7 cs => uInt .i64 cs fun a8 cs => uInt .i64 cs fun a9 cs => uEnd cs (⟨a0, a1, a2, a3, a4, a5, (⟨a6, a7⟩ : T.Span), (⟨a8, a9⟩ : T.Span)⟩ : T.Road)
  | 94, cs => uSl 3 cs fun a0 cs => uSl 3 cs fun a1 cs => uEnd cs (⟨a0, a1⟩ : T.Setting)
  | 96, cs => uSl 3 cs fun a0 cs => uSl 3 cs fun a1 cs => uEnd cs (⟨a0, a1⟩ : T.State)
  | 102, cs => uSl 5 cs fun a0 cs => uInt .i64 cs fun a1 cs => uEnd cs (⟨a0, a1⟩ : T.draw_Codes)
  | 108, cs => uInt .i64 cs fun a0 cs => uBool cs fun a1 cs => uEnd cs (⟨a0, a1⟩ : T.Place)
  | 110, cs => uInt .i64 cs fun a0 cs => uInt .i64 cs fun a1 cs => uInt .i64 cs fun a2 cs => uInt .i64 cs fun a3 cs => uInt .i64 cs fun a4 cs => uInt .i64 cs fun a5 cs => uInt .i64 cs fun a6 cs => uInt .i64 cs fun a7 cs => uEnd cs (⟨a0, a1, a2, a3, a4, a5, a6, a7⟩ : T.Sensor)
  | 112, cs => uInt .i64 cs fun a0 cs => uInt .i64 cs fun a1 cs => uInt .i64 cs fun a2 cs => uEnd cs (⟨a0, a1, a2⟩ : T.Level)
  | 114, cs => uInt .i64 cs fun a0 cs => uInt .i64 cs fun a1 cs => uInt .i64 cs fun a2 cs => uInt .i64 cs fun a3 cs => uInt .i64 cs fun a4 cs => uInt .i64 cs fun a5 cs => uEnd cs (⟨a0, a1, a2, (⟨a3, a4, a5⟩ : T.Level)⟩ : T.Cond)
  | 116, cs => uInt .i64 cs fun a0 cs => uInt .i64 cs fun a1 cs => uInt .i64 cs fun a2 cs => uInt .i64 cs fun a3 cs => uEnd cs (⟨a0, a1, a2, a3⟩ : T.RuleNode)
  | 126, cs => uSl 4 cs fun a0 cs => uEnd cs a0
  | 144, cs => uSl 168 cs fun a0 cs => uEnd cs a0
  | 147, cs => uInt .i64 cs fun a0 cs => uBool cs fun a1 cs => uBool cs fun a2 cs => uSl 168 cs fun a3 cs => uEnd cs (⟨a0, a1, a2, a3⟩ : T.Fan)
  | 149, cs => uInt .i64 cs fun a0 cs => uInt .i64 cs fun a1 cs => uSl 3 cs fun a2 cs => uEnd cs (⟨a0, a1, a2⟩ : T.Door)
  | 168, cs => uInt .i64 cs fun a0 cs => uInt .i64 cs fun a1 cs => uEnd cs (⟨a0, a1⟩ : T.Point)
  | 186, cs => uInt .u32 cs fun a0 cs => uEnd cs a0
  | 187, cs => uInt .u8 cs fun a0 cs => uEnd cs a0
  | 188, cs => uInt .u8 cs fun a0 cs => uEnd cs a0
  | 191, cs => uInt .i32 cs fun a0 cs => uEnd cs a0
  | 192, cs => uInt .i32 cs fun a0 cs => uEnd cs a0
  | _, _ => none
instance : Inhabited T.Span := ⟨(⟨(0 : Int), (0 : Int)⟩ : T.Span)⟩
instance : Inhabited T.Place := ⟨(⟨(0 : Int), false⟩ : T.Place)⟩
instance : Inhabited T.Road := ⟨(⟨(0 : Int), (0 : Int), (0 : Int), (0 : Int), false, false, (⟨(0 : Int), (0 : Int)⟩ : T.Span), (⟨(0 : Int), (0 : Int)⟩ : T.Span)⟩ : T.Road)⟩
instance : Inhabited T.Mine := ⟨(⟨[], []⟩ : T.Mine)⟩
instance : Inhabited T.Point := ⟨(⟨(0 : Int), (0 : Int)⟩ : T.Point)⟩
instance : Inhabited T.Fan := ⟨(⟨(0 : Int), false, false, []⟩ : T.Fan)⟩
instance : Inhabited T.Door := ⟨(⟨(0 : Int), (0 : Int), []⟩ : T.Door)⟩
instance : Inhabited T.Air := ⟨(⟨(⟨[], []⟩ : T.Mine), [], []⟩ : T.Air)⟩
instance : Inhabited T.Sensor := ⟨(⟨(0 : Int), (0 : Int), (0 : Int), (0 : Int), (0 : Int), (0 : Int), (0 : Int), (0 : Int)⟩ : T.Sensor)⟩
instance : Inhabited T.Level := ⟨(⟨(0 : Int), (0 : Int), (0 : Int)⟩ : T.Level)⟩
instance : Inhabited T.Cond := ⟨(⟨(0 : Int), (0 : Int), (0 : Int), (⟨(0 : Int), (0 : Int), (0 : Int)⟩ : T.Level)⟩ : T.Cond)⟩
instance : Inhabited T.RuleNode := ⟨(⟨(0 : Int), (0 : Int), (0 : Int), (0 : Int)⟩ : T.RuleNode)⟩
instance : Inhabited T.Zone := ⟨(⟨[], (0 : Int), [], (0 : Int)⟩ : T.Zone)⟩
instance : Inhabited T.Person := ⟨(⟨(0 : Int)⟩ : T.Person)⟩
instance : Inhabited T.Site := ⟨(⟨(⟨(⟨[], []⟩ : T.Mine), [], []⟩ : T.Air), [], [], [], []⟩ : T.Site)⟩
instance : Inhabited T.Switch := ⟨(⟨(0 : Int), (0 : Int), (0 : Int), false, false⟩ : T.Switch)⟩
instance : Inhabited T.Feeder := ⟨(⟨[], [], (0 : Int)⟩ : T.Feeder)⟩
instance : Inhabited T.Cut := ⟨(⟨false, (0 : Int), (0 : Int)⟩ : T.Cut)⟩
instance : Inhabited T.law21_scene := ⟨(⟨(⟨(⟨(⟨[], []⟩ : T.Mine), [], []⟩ : T.Air), [], [], [], []⟩ : T.Site), [], [], (⟨[], [], (0 : Int)⟩ : T.Feeder)⟩ : T.law21_scene)⟩
instance : Inhabited T.Restoring := ⟨(⟨(0 : Int), (0 : Int), (0 : Int), (0 : Int), (0 : Int)⟩ : T.Restoring)⟩
instance : Inhabited T.law21_step := ⟨(⟨(0 : Int), (0 : Int), (0 : Int), (0 : Int)⟩ : T.law21_step)⟩
instance : Inhabited T.Setting := ⟨(⟨[], []⟩ : T.Setting)⟩
instance : Inhabited T.State := ⟨(⟨[], []⟩ : T.State)⟩
instance : Inhabited T.draw_Codes := ⟨(⟨[], (0 : Int)⟩ : T.draw_Codes)⟩
theorem al_ne (e : TypeId) : Nonempty (al e) := by unfold al; split <;> exact ⟨default⟩
noncomputable def dft : (e : TypeId) → al e
  | 2 => (0 : Int)
  | 3 => (0 : Int)
  | 4 => false
  | 5 => (0 : Int)
  | 6 => (0 : Int)
  | 9 => (⟨#[]⟩ : ByteArray)
  | 10 => (⟨#[]⟩ : ByteArray)
  | 11 => (⟨#[]⟩ : ByteArray)
  | 12 => (0 : Int)
  | 21 => (0 : Int)
  | 22 => []
  | 23 => []
  | 24 => []
  | 27 => (default : T.Span)
  | 28 => []
  | 29 => []
  | 31 => (default : T.Mine)
  | 32 => []
  | 33 => []
  | 35 => (default : T.Air)
  | 36 => []
  | 37 => []
  | 38 => []
  | 39 => []
  | 41 => (default : T.Site)
  | 42 => []
  | 43 => []
  | 45 => (default : T.Feeder)
  | 47 => (default : T.law21_scene)
  | 52 => (0 : Int)
  | 56 => (default : T.Restoring)
  | 58 => []
  | 61 => (default : T.law21_step)
  | 65 => (default : T.Person)
  | 71 => (default : T.Cut)
  | 76 => (default : T.Switch)
  | 81 => (0 : Int)
  | 85 => []
  | 87 => (default : T.Zone)
  | 89 => (default : T.Road)
  | 94 => (default : T.Setting)
  | 96 => (default : T.State)
  | 102 => (default : T.draw_Codes)
  | 108 => (default : T.Place)
  | 110 => (default : T.Sensor)
  | 112 => (default : T.Level)
  | 114 => (default : T.Cond)
  | 116 => (default : T.RuleNode)
  | 126 => []
  | 144 => []
  | 147 => (default : T.Fan)
  | 149 => (default : T.Door)
  | 168 => (default : T.Point)
  | 186 => (0 : Int)
  | 187 => (0 : Int)
  | 188 => (0 : Int)
  | 191 => (0 : Int)
  | 192 => (0 : Int)
  | n => Classical.choice (al_ne n)
def tiL : List (Nat × TI) := [(2, ⟨1, 8, .int .i64, [.int .i64]⟩),
  (3, ⟨1, 8, .int .i64, [.int .i64]⟩),
  (4, ⟨1, 1, .bool, [.bool]⟩),
  (5, ⟨1, 1, .int .u8, [.int .u8]⟩),
  (6, ⟨1, 1, .int .u8, [.int .u8]⟩),
  (9, ⟨1, 16, .str, [.str]⟩),
  (10, ⟨1, 16, .str, [.str]⟩),
  (11, ⟨1, 16, .str, [.str]⟩),
  (12, ⟨1, 8, .int .u64, [.int .u64]⟩),
  (21, ⟨1, 4, .int .i32, [.int .i32]⟩),
  (22, ⟨1, 24, .slice 5, [.nil]⟩),
  (23, ⟨1, 24, .slice 71, [.nil]⟩),
  (24, ⟨1, 24, .slice 27, [.nil]⟩),
  (27, ⟨2, 16, .struct [(3, 0), (3, 1)], [.int .i64, .int .i64]⟩),
  (28, ⟨1, 24, .slice 108, [.nil]⟩),
  (29, ⟨1, 24, .slice 89, [.nil]⟩),
  (31, ⟨2, 48, .struct [(28, 0), (29, 1)], [.nil, .nil]⟩),
  (32, ⟨1, 24, .slice 147, [.nil]⟩),
  (33, ⟨1, 24, .slice 149, [.nil]⟩),
  (35, ⟨4, 96, .struct [(31, 0), (32, 2), (33, 3)], [.nil, .nil, .nil, .nil]⟩),
  (36, ⟨1, 24, .slice 110, [.nil]⟩),
  (37, ⟨1, 24, .slice 114, [.nil]⟩),
  (38, ⟨1, 24, .slice 87, [.nil]⟩),
  (39, ⟨1, 24, .slice 65, [.nil]⟩),
  (41, ⟨8, 192, .struct [(35, 0), (36, 4), (37, 5), (38, 6), (39, 7)], [.nil, .nil, .nil, .nil, .nil, .nil, .nil, .nil]⟩),
  (42, ⟨1, 24, .slice 76, [.nil]⟩),
  (43, ⟨1, 24, .slice 3, [.nil]⟩),
  (45, ⟨3, 56, .struct [(42, 0), (43, 1), (3, 2)], [.nil, .nil, .int .i64]⟩),
  (47, ⟨13, 296, .struct [(41, 0), (23, 8), (24, 9), (45, 10)], [.nil, .nil, .nil, .nil, .nil, .nil, .nil, .nil, .nil, .nil, .nil, .nil, .int .i64]⟩),
  (52, ⟨1, 8, .int .i64, [.int .i64]⟩),
  (56, ⟨5, 40, .struct [(3, 0), (3, 1), (3, 2), (3, 3), (3, 4)], [.int .i64, .int .i64, .int .i64, .int .i64, .int .i64]⟩),
  (58, ⟨1, 24, .slice 61, [.nil]⟩),
  (61, ⟨4, 32, .struct [(3, 0), (3, 1), (3, 2), (3, 3)], [.int .i64, .int .i64, .int .i64, .int .i64]⟩),
  (65, ⟨1, 8, .struct [(3, 0)], [.int .i64]⟩),
  (71, ⟨3, 24, .struct [(4, 0), (3, 1), (3, 2)], [.bool, .int .i64, .int .i64]⟩),
  (76, ⟨5, 32, .struct [(3, 0), (3, 1), (3, 2), (4, 3), (4, 4)], [.int .i64, .int .i64, .int .i64, .bool, .bool]⟩),
  (81, ⟨1, 2, .int .u16, [.int .u16]⟩),
  (85, ⟨1, 24, .slice 116, [.nil]⟩),
  (87, ⟨4, 64, .struct [(85, 0), (3, 1), (43, 2), (3, 3)], [.nil, .int .i64, .nil, .int .i64]⟩),
  (89, ⟨10, 72, .struct [(3, 0), (3, 1), (3, 2), (3, 3), (4, 4), (4, 5), (27, 6), (27, 8)], [.int .i64, .int .i64, .int .i64, .int .i64, .bool, .bool, .int .i64, .int .i64, .int .i64, .int .i64]⟩),
  (94, ⟨2, 48, .struct [(43, 0), (43, 1)], [.nil, .nil]⟩),
  (96, ⟨2, 48, .struct [(43, 0), (43, 1)], [.nil, .nil]⟩),
  (102, ⟨2, 32, .struct [(22, 0), (3, 1)], [.nil, .int .i64]⟩),
  (108, ⟨2, 16, .struct [(3, 0), (4, 1)], [.int .i64, .bool]⟩),
  (110, ⟨8, 64, .struct [(3, 0), (3, 1), (3, 2), (3, 3), (3, 4), (3, 5), (3, 6), (3, 7)], [.int .i64, .int .i64, .int .i64, .int .i64, .int .i64, .int .i64, .int .i64, .int .i64]⟩),
  (112, ⟨3, 24, .struct [(3, 0), (3, 1), (3, 2)], [.int .i64, .int .i64, .int .i64]⟩),
  (114, ⟨6, 48, .struct [(3, 0), (3, 1), (3, 2), (112, 3)], [.int .i64, .int .i64, .int .i64, .int .i64, .int .i64, .int .i64]⟩),
  (116, ⟨4, 32, .struct [(3, 0), (3, 1), (3, 2), (3, 3)], [.int .i64, .int .i64, .int .i64, .int .i64]⟩),
  (126, ⟨1, 24, .slice 4, [.nil]⟩),
  (144, ⟨1, 24, .slice 168, [.nil]⟩),
  (147, ⟨4, 40, .struct [(3, 0), (4, 1), (4, 2), (144, 3)], [.int .i64, .bool, .bool, .nil]⟩),
  (149, ⟨3, 40, .struct [(3, 0), (3, 1), (43, 2)], [.int .i64, .int .i64, .nil]⟩),
  (168, ⟨2, 16, .struct [(3, 0), (3, 1)], [.int .i64, .int .i64]⟩),
  (186, ⟨1, 4, .int .u32, [.int .u32]⟩),
  (187, ⟨1, 1, .int .u8, [.int .u8]⟩),
  (188, ⟨1, 1, .int .u8, [.int .u8]⟩),
  (191, ⟨1, 4, .int .i32, [.int .i32]⟩),
  (192, ⟨1, 4, .int .i32, [.int .i32]⟩)]
def eqL : List (Nat × List Z) := [(27, [.int .i64, .int .i64]),
  (56, [.int .i64, .int .i64, .int .i64, .int .i64, .int .i64]),
  (61, [.int .i64, .int .i64, .int .i64, .int .i64]),
  (65, [.int .i64]),
  (71, [.bool, .int .i64, .int .i64]),
  (76, [.int .i64, .int .i64, .int .i64, .bool, .bool]),
  (108, [.int .i64, .bool]),
  (110, [.int .i64, .int .i64, .int .i64, .int .i64, .int .i64, .int .i64, .int .i64, .int .i64]),
  (112, [.int .i64, .int .i64, .int .i64]),
  (116, [.int .i64, .int .i64, .int .i64, .int .i64]),
  (168, [.int .i64, .int .i64])]
noncomputable def reg : Reg := ⟨al, pk, unpk, dft, fun t => find t tiL, fun t => find t eqL⟩
end Go.Proofs.Ytlhknehkcflkgaa
