/- The structures of the program, as plain Lean structures. -/
set_option autoImplicit false
namespace Go.Proofs.Ytlhknehkcflkgaa
structure T.Span where
  Low : Int
  High : Int
  deriving DecidableEq
structure T.Place where
  Height : Int
  Surface : Bool
  deriving DecidableEq
structure T.Road where
  From : Int
  To : Int
  Length : Int
  Area : Int
  Walk : Bool
  Closed : Bool
  Rest : T.Span
  Lift : T.Span
  deriving DecidableEq
structure T.Mine where
  Places : List T.Place
  Roads : List T.Road
  deriving DecidableEq
structure T.Point where
  Flow : Int
  Pressure : Int
  deriving DecidableEq
structure T.Fan where
  Road : Int
  Back : Bool
  Auxiliary : Bool
  Curve : List T.Point
  deriving DecidableEq
structure T.Door where
  Road : Int
  Other : Int
  Rests : List Int
  deriving DecidableEq
structure T.Air where
  Mine : T.Mine
  Fans : List T.Fan
  Doors : List T.Door
  deriving DecidableEq
structure T.Sensor where
  Address : Int
  Kind : Int
  Target : Int
  Offset : Int
  Scale : Int
  Error : Int
  Drift : Int
  Life : Int
  deriving DecidableEq
structure T.Level where
  Cut : Int
  Clear : Int
  Delay : Int
  deriving DecidableEq
structure T.Cond where
  Kind : Int
  Target : Int
  Value : Int
  Level : T.Level
  deriving DecidableEq
structure T.RuleNode where
  Kind : Int
  Cond : Int
  Left : Int
  Right : Int
  deriving DecidableEq
structure T.Zone where
  Rule : List T.RuleNode
  Hold : Int
  Roads : List Int
  Fresh : Int
  deriving DecidableEq
structure T.Person where
  Role : Int
  deriving DecidableEq
structure T.Site where
  Air : T.Air
  Sensors : List T.Sensor
  Conds : List T.Cond
  Zones : List T.Zone
  Persons : List T.Person
  deriving DecidableEq
structure T.Switch where
  Above : Int
  Since : Int
  Shown : Int
  Closed : Bool
  Late : Bool
  deriving DecidableEq
structure T.Feeder where
  Switches : List T.Switch
  Zones : List Int
  Reply : Int
  deriving DecidableEq
structure T.Cut where
  Off : Bool
  Clear : Int
  Reason : Int
  deriving DecidableEq
structure T.law21_scene where
  site : T.Site
  cuts : List T.Cut
  flows : List T.Span
  feeder : T.Feeder
  deriving DecidableEq
structure T.Restoring where
  Zone : Int
  First : Int
  Second : Int
  Step : Int
  Time : Int
  deriving DecidableEq
structure T.law21_step where
  kind : Int
  person : Int
  zone : Int
  wait : Int
  deriving DecidableEq
structure T.Setting where
  Fans : List Int
  Doors : List Int
  deriving DecidableEq
structure T.State where
  Pressures : List Int
  Flows : List Int
  deriving DecidableEq
structure T.draw_Codes where
  l : List Int
  at_ : Int
  deriving DecidableEq
end Go.Proofs.Ytlhknehkcflkgaa
