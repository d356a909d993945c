/- What the two functions that hand functions around compute. -/
import Derived.Test.YtlhknehkcflkgaaAbN1
set_option autoImplicit false
set_option maxRecDepth 100000
namespace Go.Proofs.Ytlhknehkcflkgaa
open Go Ab
/-- a switch and those above it -/
def pathUp (sw : List T.Switch) : Nat → Int → List Int → Option (List Int)
  | 0, _, _ => none
  | n + 1, s, acc => sel (decide (s ≥ 0)) (sel (decide (s < (sw.length : Int))) (pathUp sw n (rd sw s.toNat default).Above (acc ++ [s])) none) (some acc)
noncomputable def feeder_Path (f : T.Feeder) (s : Int) : Option (List Int) :=
  obind (feeder_Check f) fun e => sel (e != 0) (some []) (sel (decide (s < 0)) (some []) (sel (decide (s ≥ (f.Switches.length : Int))) (some []) (pathUp f.Switches 100 s [])))
def sg72 : Ab.Sig := ⟨[(false, 45), (false, 3)], [(43, [true])], [], false, false, []⟩
noncomputable def e72 : Ab.Spec reg := ⟨sg72, fun (a0, a1) => feeder_Path a0 a1⟩
/-- the last switch of a path that is not known to be closed -/
def lastOpen (sw : List T.Switch) : List Int → Int → Option Int
  | [], a => some a
  | s :: r, a => sel (decide (0 ≤ s)) (sel (decide (s < (sw.length : Int))) (sel ((rd sw s.toNat default).Shown != 1) (lastOpen sw r s) (lastOpen sw r a)) none) none
/-- some other switch of a path is known to be open -/
def anyOpen (sw : List T.Switch) (a : Int) : List Int → Option Bool
  | [] => some false
  | s :: r => sel (s != a) (sel (decide (0 ≤ s)) (sel (decide (s < (sw.length : Int))) (sel ((rd sw s.toNat default).Shown == -1) (some true) (anyOpen sw a r)) none) none) (anyOpen sw a r)
/-- does another zone that is off hang below, and nothing else hold it? -/
noncomputable def powered (c : List T.Cut) (f : T.Feeder) (zone a : Int) : Nat → List Int → Option Bool
  | _, [] => some false
  | z, own :: r =>
    sel ((z : Int) == zone) (powered c f zone a (z + 1) r)
      (sel (decide ((z : Int) < (c.length : Int))) (sel (!(rd c z default).Off) (powered c f zone a (z + 1) r)
        (obind (feeder_Path f own) fun o => obind (anyOpen f.Switches a o) fun open_ => sel (o.contains a && !open_) (some true) (powered c f zone a (z + 1) r))) none)
noncomputable def restore_Next (c : List T.Cut) (f : T.Feeder) (zone : Int) : Option (Int × Bool) :=
  sel (decide (0 ≤ zone)) (sel (decide (zone < (f.Zones.length : Int))) (obind (feeder_Path f (rd f.Zones zone.toNat default)) fun path =>
    sel (decide (0 < (path.length : Int))) (obind (lastOpen f.Switches path (rd path 0 default)) fun a => obind (powered c f zone a 0 f.Zones) fun b => some (a, b)) none) none) none
def sg53 : Ab.Sig := ⟨[(false, 23), (false, 45), (false, 3)], [(3, [false]), (4, [false])], [], false, false, []⟩
noncomputable def e53 : Ab.Spec reg := ⟨sg53, fun (a0, a1, a2) => restore_Next a0 a1 a2⟩
end Go.Proofs.Ytlhknehkcflkgaa
