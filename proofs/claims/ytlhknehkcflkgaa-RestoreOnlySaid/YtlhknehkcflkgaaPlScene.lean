import Derived.Test.YtlhknehkcflkgaaPlKit
import Derived.Test.YtlhknehkcflkgaaAbN2
import Derived.Test.YtlhknehkcflkgaaAbN4
set_option autoImplicit false
set_option linter.unusedVariables false
set_option linter.unusedSimpArgs false
set_option maxRecDepth 100000
/- Sites that are right, and that the program's check finds no error in them. -/
namespace Go.Proofs.Ytlhknehkcflkgaa
open Go Ab
theorem K_1000 : 1000 < K := by unfold K; omega
structure RoadOk (n : Nat) (r : T.Road) : Prop where
  f0 : 0 ≤ r.From
  f1 : r.From < (n : Int)
  t0 : 0 ≤ r.To
  t1 : r.To < (n : Int)
  ne : r.From ≠ r.To
  l0 : 1 ≤ r.Length
  l1 : r.Length ≤ 100000
  a0 : 1 ≤ r.Area
  a1 : r.Area ≤ 1000
  r0 : 1 ≤ r.Rest.Low
  r1 : r.Rest.Low ≤ r.Rest.High
  r2 : r.Rest.High ≤ 262144
  v0 : -2199023255552 ≤ r.Lift.Low
  v1 : r.Lift.Low ≤ r.Lift.High
  v2 : r.Lift.High ≤ 2199023255552
structure MineOk (m : T.Mine) : Prop where
  pl : m.Places.length ≤ 64
  rl : m.Roads.length ≤ 128
  p : ∀ i, i < m.Places.length → -10000 ≤ (rd m.Places i default).Height ∧ (rd m.Places i default).Height ≤ 10000
  r : ∀ i, i < m.Roads.length → RoadOk m.Places.length (rd m.Roads i default)
structure FanOk (n : Nat) (f : T.Fan) : Prop where
  r0 : 0 ≤ f.Road
  r1 : f.Road < (n : Int)
  c0 : 1 ≤ f.Curve.length
  c1 : f.Curve.length ≤ 8
  p : ∀ i, i < f.Curve.length → -1048576 ≤ (rd f.Curve i default).Flow ∧ (rd f.Curve i default).Flow ≤ 1048576 ∧ 0 ≤ (rd f.Curve i default).Pressure ∧ (rd f.Curve i default).Pressure ≤ 2199023255552
  m : ∀ i, 0 < i → i < f.Curve.length → (rd f.Curve (i - 1) default).Flow < (rd f.Curve i default).Flow ∧ (rd f.Curve i default).Pressure ≤ (rd f.Curve (i - 1) default).Pressure
structure DoorOk (n : Nat) (d : T.Door) : Prop where
  r0 : 0 ≤ d.Road
  r1 : d.Road < (n : Int)
  c0 : 2 ≤ d.Rests.length
  c1 : d.Rests.length ≤ 6
  p : ∀ i, i < d.Rests.length → 0 ≤ rd d.Rests i default ∧ rd d.Rests i default ≤ 262144
  m : ∀ i, 0 < i → i < d.Rests.length → rd d.Rests i default < rd d.Rests (i - 1) default
  o : d.Other = -1
structure AirOk (a : T.Air) : Prop where
  mine : MineOk a.Mine
  fl : a.Fans.length ≤ 8
  f : ∀ i, i < a.Fans.length → FanOk a.Mine.Roads.length (rd a.Fans i default)
  dl : a.Doors.length ≤ 16
  d : ∀ i, i < a.Doors.length → DoorOk a.Mine.Roads.length (rd a.Doors i default)
structure SensorOk (R F D : Nat) (x : T.Sensor) : Prop where
  k0 : 1 ≤ x.Kind
  k1 : x.Kind ≤ 6
  a0 : 0 ≤ x.Address
  a1 : x.Address ≤ 255
  t0 : 0 ≤ x.Target
  tr : x.Kind ≠ 5 → x.Kind ≠ 6 → x.Target < (R : Int)
  tf : x.Kind = 5 → x.Target < (F : Int)
  td : x.Kind = 6 → x.Target < (D : Int)
  o0 : -1000000 ≤ x.Offset
  o1 : x.Offset ≤ 1000000
  s0 : -1000000 ≤ x.Scale
  s1 : x.Scale ≤ 1000000
  e0 : 0 ≤ x.Error
  e1 : x.Error ≤ 1000000
  d0 : 0 ≤ x.Drift
  d1 : x.Drift ≤ 1000000
  l0 : 1 ≤ x.Life
  l1 : x.Life ≤ 1000000
structure LevelOk (l : T.Level) : Prop where
  c0 : 0 ≤ l.Clear
  c1 : l.Clear < l.Cut
  c2 : l.Cut ≤ 1000000
  d0 : 0 ≤ l.Delay
  d1 : l.Delay ≤ 100000
structure CondOk (ss : List T.Sensor) (R : Nat) (c : T.Cond) : Prop where
  k0 : 1 ≤ c.Kind
  k1 : c.Kind ≤ 5
  t0 : 0 ≤ c.Target
  ts : c.Kind ≠ 5 → c.Target < (ss.length : Int)
  tf : c.Kind = 3 → (rd ss c.Target.toNat default).Kind = 5
  tr : c.Kind = 5 → c.Target < (R : Int)
  v0 : 0 ≤ c.Value
  v1 : c.Value ≤ 1099511627776
  l : LevelOk c.Level
/-- rules as trees -/
inductive RT where
  | cond (c : Int)
  | not (a : RT)
  | bin (k : Int) (a b : RT)
def RT.size : RT → Nat
  | .cond _ => 1
  | .not a => a.size + 1
  | .bin _ a b => a.size + b.size + 1
def RT.depth : RT → Nat
  | .cond _ => 1
  | .not a => a.depth + 1
  | .bin _ a b => max a.depth b.depth + 1
/-- a tree's nodes lie in a list from b on -/
def RT.at (l : List T.RuleNode) : RT → Nat → Prop
  | .cond c, b => b < l.length ∧ rd l b default = { Kind := 1, Cond := c, Left := 0, Right := 0 } ∧ 0 ≤ c ∧ c < 64
  | .not a, b => a.at l b ∧ b + a.size < l.length ∧ rd l (b + a.size) default = { Kind := 2, Cond := 0, Left := (b + a.size : Nat) - 1, Right := 0 }
  | .bin k a c, b => a.at l b ∧ c.at l (b + a.size) ∧ b + a.size + c.size < l.length ∧ (k = 3 ∨ k = 4) ∧ rd l (b + a.size + c.size) default = { Kind := k, Cond := 0, Left := (b + a.size : Nat) - 1, Right := (b + a.size + c.size : Nat) - 1 }
theorem RT.size_pos : ∀ t : RT, 1 ≤ t.size
  | .cond _ => by simp [RT.size]
  | .not a => by simp [RT.size]
  | .bin _ a b => by simp [RT.size]
structure RuleOk (C : Nat) (l : List T.RuleNode) : Prop where
  tree : ∃ t : RT, t.at l 0 ∧ l.length = t.size ∧ t.depth ≤ 16
  len : l.length ≤ 64
  c : ∀ i, i < l.length → (rd l i default).Kind = 1 → (rd l i default).Cond < (C : Int)
structure ZoneOk (C R : Nat) (z : T.Zone) : Prop where
  rule : RuleOk C z.Rule
  h0 : 0 ≤ z.Hold
  h1 : z.Hold ≤ 100000
  f0 : 0 ≤ z.Fresh
  f1 : z.Fresh ≤ 100
  rl : z.Roads.length ≤ 128
  r : ∀ i, i < z.Roads.length → 0 ≤ rd z.Roads i default ∧ rd z.Roads i default < (R : Int)
  m : ∀ i, 0 < i → i < z.Roads.length → rd z.Roads (i - 1) default < rd z.Roads i default
structure SiteOk (s : T.Site) : Prop where
  air : AirOk s.Air
  sl : s.Sensors.length ≤ 64
  cl : s.Conds.length ≤ 64
  zl : s.Zones.length ≤ 16
  pl : s.Persons.length ≤ 64
  se : ∀ i, i < s.Sensors.length → SensorOk s.Air.Mine.Roads.length s.Air.Fans.length s.Air.Doors.length (rd s.Sensors i default)
  a : ∀ i j, i < s.Sensors.length → j < i → (rd s.Sensors j default).Address ≠ (rd s.Sensors i default).Address
  c : ∀ i, i < s.Conds.length → CondOk s.Sensors s.Air.Mine.Roads.length (rd s.Conds i default)
  z : ∀ i, i < s.Zones.length → ZoneOk s.Conds.length s.Air.Mine.Roads.length (rd s.Zones i default)
  p : ∀ i, i < s.Persons.length → 1 ≤ (rd s.Persons i default).Role ∧ (rd s.Persons i default).Role ≤ 3
theorem toNat_pred {i : Nat} (h : 0 < i) : ((i : Int) - 1).toNat = i - 1 := by omega

/-! ### the program's checks -/
theorem spanIn_t {s : T.Span} {lo hi : Int} (h1 : lo ≤ s.Low) (h2 : s.Low ≤ s.High) (h3 : s.High ≤ hi) : plan_spanIn s lo hi = some true := by
  unfold plan_spanIn plan_spanIn.f
  rw [sel_dt h1, sel_dt h2, decide_eq_true h3]
theorem plan_roads {rs : List T.Road} {n : Nat} (h : ∀ i, i < rs.length → RoadOk n (rd rs i default)) (hl : rs.length ≤ 1000) (hn : n ≤ 1000) : ∀ (d i it : Nat), i + d = rs.length → d < it → plan_Check.j1 K it ((i : Int), (rs.length : Int), rs, (n : Int)) = some 0
  | 0, i, it + 1, hi, hit => by
    rw [plan_Check.j1, sel_df (by omega)]
    rfl
  | d + 1, i, it + 1, hi, hit => by
    obtain ⟨f0, f1, t0, t1, ne, l0, l1, a0, a1, r0, r1, r2, v0, v1, v2⟩ := h i (by omega)
    have ih := plan_roads h hl hn d (i + 1) it (by omega) (by omega)
    push_cast at ih
    rw [plan_Check.j1, Int.toNat_natCast]
    generalize rd rs i default = r at *
    simp (disch := omega) only [sel_dt, sel_df, sel_eqf, w64_small, spanIn_t, obind_some, Bool.not_true, sel_f]
    exact ih
theorem plan_places {ps : List T.Place} (h : ∀ i, i < ps.length → -10000 ≤ (rd ps i default).Height ∧ (rd ps i default).Height ≤ 10000) (hl : ps.length ≤ 1000) (rs : List T.Road) (qs : List T.Place) : ∀ (d i it : Nat), i + d = ps.length → d < it → plan_Check.j0 K it ((i : Int), (ps.length : Int), ps, (), rs, qs) = plan_Check.j3 K ((), rs, qs)
  | 0, i, it + 1, hi, hit => by
    rw [plan_Check.j0, sel_df (by omega)]
  | d + 1, i, it + 1, hi, hit => by
    have g := h i (by omega)
    have ih := plan_places h hl rs qs d (i + 1) it (by omega) (by omega)
    push_cast at ih
    rw [plan_Check.j0, Int.toNat_natCast]
    simp (disch := omega) only [sel_dt, sel_df, w64_small]
    exact ih
theorem plan_ok {m : T.Mine} (h : MineOk m) : plan_Check m = some 0 := by
  have hK := K_1000
  obtain ⟨pl, rl, p, r⟩ := h
  unfold plan_Check plan_Check.f
  rw [sel_df (by omega), sel_df (by omega)]
  have e := plan_places p (by omega) m.Roads m.Places m.Places.length 0 K (by omega) (by omega)
  rw [show ((0 : Nat) : Int) = 0 from rfl] at e
  rw [e]
  exact plan_roads r (by omega) (by omega) m.Roads.length 0 K (by omega) (by omega)
theorem fan_loop {n : Nat} {f : T.Fan} (h : FanOk n f) : ∀ (d i it : Nat), i + d = f.Curve.length → d < it → fan_Check.j0 K it ((i : Int), (f.Curve.length : Int), f.Curve, (), f.Curve) = some 0
  | 0, i, it + 1, hi, hit => by
    rw [fan_Check.j0, sel_df (by omega)]
    rfl
  | d + 1, i, it + 1, hi, hit => by
    have g := h.p i (by omega)
    have c1 := h.c1
    have ih := fan_loop h d (i + 1) it (by omega) (by omega)
    push_cast at ih
    rw [fan_Check.j0, Int.toNat_natCast]
    by_cases h0 : 0 < i
    · have mm := h.m i h0 (by omega)
      have e := toNat_pred h0
      simp (disch := omega) only [sel_dt, sel_df, w64_small, e]
      exact ih
    · simp (disch := omega) only [sel_dt, sel_df, w64_small]
      exact ih
theorem fan_ok {n : Nat} {f : T.Fan} (h : FanOk n f) : fan_Check f = some 0 := by
  have hK := K_1000
  have hl := fan_loop h f.Curve.length 0 K (by omega) (by have := h.c1; omega)
  obtain ⟨r0, r1, c0, c1, _, _⟩ := h
  unfold fan_Check fan_Check.f
  rw [sel_df (by omega), sel_df (by omega), sel_df (by omega)]
  exact hl
theorem door_loop1 {n : Nat} {d : T.Door} (h : DoorOk n d) (g0 : _) (ii t13 t12 : Int) (t11 l : List T.Door) : ∀ (d' i it : Nat), i + d' = d.Rests.length → d' < it → door_Check.j1 K g0 it ((i : Int), (d.Rests.length : Int), d.Rests, true, d.Rests, d.Other, ii, (), t13, t12, t11, l) = door_Check.j2 K g0 (true, d.Other, ii, (), t13, t12, t11, l)
  | 0, i, it + 1, hi, hit => by
    rw [door_Check.j1, sel_df (by omega)]
  | d' + 1, i, it + 1, hi, hit => by
    have g := h.p i (by omega)
    have c1 := h.c1
    have ih := door_loop1 h g0 ii t13 t12 t11 l d' (i + 1) it (by omega) (by omega)
    push_cast at ih
    rw [door_Check.j1, Int.toNat_natCast]
    by_cases h0 : 0 < i
    · have mm := h.m i h0 (by omega)
      have e := toNat_pred h0
      simp (disch := omega) only [sel_dt, sel_df, sel_eqf, sel_t, w64_small, e]
      rw [decide_eq_true (by omega)]
      exact ih
    · simp (disch := omega) only [sel_dt, sel_df, sel_eqt, sel_t, w64_small]
      exact ih
theorem door_loop {n : Nat} {ds l : List T.Door} (h : ∀ i, i < ds.length → DoorOk n (rd ds i default)) (hl : ds.length ≤ 1000) : ∀ (d i it : Nat), i + d = ds.length → d < it → door_Check.j0 K it ((i : Int), (ds.length : Int), ds, l) = some 0
  | 0, i, it + 1, hi, hit => by
    rw [door_Check.j0, sel_df (by omega)]
    rfl
  | d + 1, i, it + 1, hi, hit => by
    have hK := K_1000
    have g := h i (by omega)
    have ih := door_loop (l := l) h hl d (i + 1) it (by omega) (by omega)
    push_cast at ih
    have e1 := door_loop1 g (door_Check.j0 K it) (i : Int) (i : Int) (ds.length : Int) ds l (rd ds i default).Rests.length 0 K (by omega) (by have := g.c1; omega)
    rw [show ((0 : Nat) : Int) = 0 from rfl] at e1
    obtain ⟨r0, r1, c0, c1, _, _, o⟩ := g
    rw [door_Check.j0, Int.toNat_natCast]
    simp (disch := omega) only [sel_dt, sel_df]
    rw [e1, o]
    unfold door_Check.j2 door_Check.j3
    dsimp only
    simp (disch := omega) only [w64_small, Bool.not_true, sel_f, sel_nef]
    exact ih
theorem door_ok {n : Nat} {l : List T.Door} (hl : l.length ≤ 16) (h : ∀ i, i < l.length → DoorOk n (rd l i default)) : door_Check l = some 0 := by
  have hK := K_1000
  unfold door_Check door_Check.f
  rw [sel_df (by omega)]
  exact door_loop h (by omega) l.length 0 K (by omega) (by omega)
theorem branch_doors {ds : List T.Door} {rs : List T.Road} (h : ∀ i, i < ds.length → DoorOk rs.length (rd ds i default)) (hl : ds.length ≤ 1000) : ∀ (d i it : Nat), i + d = ds.length → d < it → branch_Check.j1 K it ((i : Int), (ds.length : Int), ds, (), rs) = some 0
  | 0, i, it + 1, hi, hit => by
    rw [branch_Check.j1, sel_df (by omega)]
    rfl
  | d + 1, i, it + 1, hi, hit => by
    have g := (h i (by omega)).r1
    have ih := branch_doors h hl d (i + 1) it (by omega) (by omega)
    push_cast at ih
    rw [branch_Check.j1, Int.toNat_natCast]
    simp (disch := omega) only [sel_dt, sel_df, w64_small]
    exact ih
theorem branch_fans {fs : List T.Fan} {ds : List T.Door} {rs : List T.Road} (h : ∀ i, i < fs.length → FanOk rs.length (rd fs i default)) (hl : fs.length ≤ 1000) : ∀ (d i it : Nat), i + d = fs.length → d < it → branch_Check.j0 K it ((i : Int), (fs.length : Int), fs, (), ds, rs) = branch_Check.j3 K ((), ds, rs)
  | 0, i, it + 1, hi, hit => by
    rw [branch_Check.j0, sel_df (by omega)]
  | d + 1, i, it + 1, hi, hit => by
    have g := h i (by omega)
    have g1 := g.r1
    have e := fan_ok g
    have ih := branch_fans (ds := ds) h hl d (i + 1) it (by omega) (by omega)
    push_cast at ih
    rw [branch_Check.j0, Int.toNat_natCast]
    simp (disch := omega) only [sel_dt, sel_df, w64_small, e, obind_some, sel_nef]
    exact ih
theorem branch_ok {a : T.Air} (h : AirOk a) : branch_Check a = some 0 := by
  have hK := K_1000
  obtain ⟨m, fl, f, dl, d⟩ := h
  unfold branch_Check branch_Check.f
  rw [plan_ok m, obind_some, sel_nef rfl, sel_df (by omega)]
  have e := branch_fans (ds := a.Doors) f (by omega) a.Fans.length 0 K (by omega) (by omega)
  rw [show ((0 : Nat) : Int) = 0 from rfl] at e
  rw [e]
  unfold branch_Check.j3
  dsimp only
  rw [door_ok dl d, obind_some, sel_nef rfl]
  exact branch_doors d (by omega) a.Doors.length 0 K (by omega) (by omega)
theorem in1 {lo hi x : Int} (h1 : lo ≤ x) (h2 : x ≤ hi) : sensor_in lo hi [x] = some true := by
  have e : sensor_in lo hi [x] = sel (decide (x < lo)) (some false) (sel (decide (x > hi)) (some false) (some true)) := by kernel_rfl
  rw [e, sel_df (by omega), sel_df (by omega)]
theorem in2 {lo hi x y : Int} (h1 : lo ≤ x) (h2 : x ≤ hi) (h3 : lo ≤ y) (h4 : y ≤ hi) : sensor_in lo hi [x, y] = some true := by
  have e : sensor_in lo hi [x, y] = sel (decide (x < lo)) (some false) (sel (decide (x > hi)) (some false) (sel (decide (y < lo)) (some false) (sel (decide (y > hi)) (some false) (some true)))) := by kernel_rfl
  rw [e, sel_df (by omega), sel_df (by omega), sel_df (by omega), sel_df (by omega)]
theorem sensor_ok {R F D : Nat} {x : T.Sensor} (h : SensorOk R F D x) : sensor_Check x = some 0 := by
  obtain ⟨k0, k1, a0, a1, t0, _, _, _, o0, o1, s0, s1, e0, e1, d0, d1, l0, l1⟩ := h
  unfold sensor_Check sensor_Check.f
  rw [in1 k0 k1, in1 a0 a1, in2 o0 o1 s0 s1, in2 e0 e1 d0 d1, in1 l0 l1]
  simp (disch := omega) only [obind_some, Bool.not_true, sel_f, sel_df]
theorem has_t {n m : Int} (h0 : 0 ≤ n) (h1 : n < m) : cutoff_has n m = some true := by
  unfold cutoff_has cutoff_has.f
  rw [sel_dt (by omega), decide_eq_true h1]
theorem csens_loop1 {ss : List T.Sensor} {addr : Int} (n : Nat) (h : ∀ j, j < n → (rd ss j default).Address ≠ addr) (g0 : _) (i t12 t11 : Int) (t10 qs : List T.Sensor) (ds : List T.Door) (fs : List T.Fan) (rs : List T.Road) (hn : n ≤ ss.length) (hl : n ≤ 1000) : ∀ (d j it : Nat), j + d = n → d < it →
    cutoff_checkSensors.j1 K g0 it ((j : Int), (n : Int), ss.take n, addr, (), t12, t11, t10, (), qs, ds, fs, rs) = cutoff_checkSensors.j3 K g0 (t12, t11, t10, (), qs, ds, fs, rs)
  | 0, j, it + 1, hi, hit => by
    rw [cutoff_checkSensors.j1, sel_df (by omega)]
  | d + 1, j, it + 1, hi, hit => by
    have g := h j (by omega)
    have ih := csens_loop1 n h g0 i t12 t11 t10 qs ds fs rs hn hl d (j + 1) it (by omega) (by omega)
    push_cast at ih
    have el : (ss.take n).length = n := by rw [List.length_take]; omega
    have er : rd (ss.take n) j default = rd ss j default := by simp [rd, List.getD, List.getElem?_take, show j < n by omega]
    rw [cutoff_checkSensors.j1, Int.toNat_natCast, el, er]
    simp (disch := omega) only [sel_dt, sel_eqf, w64_small]
    exact ih
theorem csens_loop {ss : List T.Sensor} {ds : List T.Door} {fs : List T.Fan} {rs : List T.Road} (h : ∀ i, i < ss.length → SensorOk rs.length fs.length ds.length (rd ss i default)) (ha : ∀ i j, i < ss.length → j < i → (rd ss j default).Address ≠ (rd ss i default).Address) (hl : ss.length ≤ 1000) : ∀ (d i it : Nat), i + d = ss.length → d < it →
    cutoff_checkSensors.j0 K it ((i : Int), (ss.length : Int), ss, (), ss, ds, fs, rs) = some 0
  | 0, i, it + 1, hi, hit => by
    rw [cutoff_checkSensors.j0, sel_df (by omega)]
    rfl
  | d + 1, i, it + 1, hi, hit => by
    have hK := K_1000
    have g := h i (by omega)
    have e := sensor_ok g
    have ih := csens_loop h ha hl d (i + 1) it (by omega) (by omega)
    push_cast at ih
    have e1 := csens_loop1 (ss := ss) (addr := (rd ss i default).Address) i (fun j hj => ha i j (by omega) hj) (cutoff_checkSensors.j0 K it) (i : Int) (i : Int) (ss.length : Int) ss ss ds fs rs (by omega) (by omega) i 0 K (by omega) (by omega)
    rw [show ((0 : Nat) : Int) = 0 from rfl] at e1
    have el : (List.drop (Int.toNat 0) (List.take (Int.toNat (i : Int)) ss)) = ss.take i := by simp
    have el2 : ((ss.take i).length : Int) = (i : Int) := by rw [List.length_take]; omega
    have step : ∀ of : Int, (rd ss i default).Target < of → cutoff_checkSensors.j2 K (cutoff_checkSensors.j0 K it) (of, (rd ss i default).Target, (rd ss i default).Address, (i : Int), (), (i : Int), (ss.length : Int), ss, (), ss, ds, fs, rs) = some 0 := by
      intro of hof
      unfold cutoff_checkSensors.j2
      dsimp only
      rw [has_t g.t0 hof, obind_some, el, el2]
      simp (disch := omega) only [sel_dt, Bool.not_true, sel_f]
      rw [e1]
      unfold cutoff_checkSensors.j3
      dsimp only
      rw [w64_small (by omega) (by omega)]
      exact ih
    rw [cutoff_checkSensors.j0, Int.toNat_natCast]
    simp (disch := omega) only [sel_dt, e, obind_some, sel_nef]
    by_cases h5 : (rd ss i default).Kind = 5
    · rw [sel_eqt h5]; exact step _ (g.tf h5)
    · rw [sel_eqf h5]
      by_cases h6 : (rd ss i default).Kind = 6
      · rw [sel_eqt h6]; exact step _ (g.td h6)
      · rw [sel_eqf h6]; exact step _ (g.tr h5 h6)
theorem level_ok {l : T.Level} (h : LevelOk l) : level_Check l = some 0 := by
  obtain ⟨c0, c1, c2, d0, d1⟩ := h
  unfold level_Check level_Check.f
  simp (disch := omega) only [sel_df]
theorem ccond_ok {s : T.Site} {c : T.Cond} (h : CondOk s.Sensors s.Air.Mine.Roads.length c) : cutoff_checkCond s c = some 0 := by
  obtain ⟨k0, k1, t0, ts, tf, tr, v0, v1, l⟩ := h
  have e := level_ok l
  have e1 : cutoff_checkCond.j1 K ((), c.Level.Delay, c.Level.Clear, c.Level.Cut, c.Value, c.Kind) = some 0 := by
    unfold cutoff_checkCond.j1
    dsimp only
    rw [sel_df (by omega), sel_df (by omega), show ({ Cut := c.Level.Cut, Clear := c.Level.Clear, Delay := c.Level.Delay } : T.Level) = c.Level from rfl, e, obind_some]
    cases (c.Kind == 1) <;> rfl
  unfold cutoff_checkCond cutoff_checkCond.f cutoff_checkCond.j0
  dsimp only
  rcases (by omega : c.Kind = 1 ∨ c.Kind = 2 ∨ c.Kind = 3 ∨ c.Kind = 4 ∨ c.Kind = 5) with hk | hk | hk | hk | hk
  · have := ts (by omega)
    rw [sel_eqt hk, sel_t, has_t t0 this, obind_some, Bool.not_true, sel_f, e1]
  · have := ts (by omega)
    rw [sel_eqf (by omega), sel_eqt hk, sel_t, has_t t0 this, obind_some, Bool.not_true, sel_f, e1]
  · have := ts (by omega)
    have hf := tf hk
    rw [sel_eqf (by omega), sel_eqf (by omega), show (c.Kind == 4) = false from by rw [hk]; rfl, sel_f, sel_eqt hk, has_t t0 this, obind_some, Bool.not_true, sel_f, sel_dt (by omega), sel_dt (by omega), sel_nef hf, e1]
  · have := ts (by omega)
    rw [sel_eqf (by omega), sel_eqf (by omega), show (c.Kind == 4) = true from by rw [hk]; rfl, sel_t, has_t t0 this, obind_some, Bool.not_true, sel_f, e1]
  · have := tr hk
    rw [sel_eqf (by omega), sel_eqf (by omega), show (c.Kind == 4) = false from by rw [hk]; rfl, sel_f, sel_eqf (by omega), sel_eqt hk, has_t t0 this, obind_some, Bool.not_true, sel_f, e1]
/-! rules -/
theorem RT.depth_le : ∀ t : RT, t.depth ≤ t.size
  | .cond _ => by simp [RT.depth, RT.size]
  | .not a => by have := a.depth_le; simp [RT.depth, RT.size]; omega
  | .bin _ a b => by have := a.depth_le; have := b.depth_le; simp [RT.depth, RT.size]; omega
theorem RT.at_len {l : List T.RuleNode} : ∀ {t : RT} {b : Nat}, t.at l b → b + t.size ≤ l.length
  | .cond _, b, h => by have := h.1; simp [RT.size]; omega
  | .not a, b, h => by have := h.2.1; simp [RT.size]; omega
  | .bin _ a c, b, h => by have := h.2.2.1; simp [RT.size]; omega
theorem part_ok {l : List T.RuleNode} (hl : l.length ≤ 1000) : ∀ (t : RT) (b n : Nat) (x : Int), x = (b : Int) + (t.size : Int) - 1 → t.at l b → t.depth ≤ n → rule_part.F n (l, x) = some ((b : Int), (t.depth : Int), true)
  | .cond c, b, n, x, hx, h, hn => by
    obtain ⟨h1, h2, h3, h4⟩ := h
    simp only [RT.depth, RT.size] at hn hx ⊢
    obtain ⟨n, rfl⟩ : ∃ m, n = m + 1 := ⟨n - 1, by omega⟩
    have ei : x.toNat = b := by omega
    simp only [rule_part.F, rule_part.f, ei, h2]
    simp (disch := omega) only [sel_df, sel_dt, sel_eqt]
    rw [decide_eq_true h4, show x = (b : Int) by omega]
    rfl
  | .not a, b, n, x, hx, h, hn => by
    have hlen := RT.at_len h
    obtain ⟨h1, h2, h3⟩ := h
    simp only [RT.depth, RT.size] at hn hx ⊢
    obtain ⟨n, rfl⟩ : ∃ m, n = m + 1 := ⟨n - 1, by omega⟩
    have ih := part_ok hl a b n (x - 1) (by omega) h1 (by omega)
    have hd := a.depth_le
    have ei : x.toNat = b + a.size := by omega
    simp only [rule_part.F, rule_part.f, ei, h3]
    simp (disch := omega) only [sel_df, sel_dt, sel_eqt, sel_eqf, w64_small, ih, obind_some, sel_t]
    rw [show ((((b + a.size : Nat) : Int) - 1) == x - 1) = true from by rw [beq_iff_eq]; omega]
    rfl
  | .bin k a c, b, n, x, hx, h, hn => by
    have hlen := RT.at_len h
    obtain ⟨h1, h2, h3, h4, h5⟩ := h
    simp only [RT.depth, RT.size] at hn hx hlen ⊢
    obtain ⟨n, rfl⟩ : ∃ m, n = m + 1 := ⟨n - 1, by omega⟩
    have sa := a.size_pos
    have sc := c.size_pos
    have da := a.depth_le
    have dc := c.depth_le
    have ih1 := part_ok hl a b n ((b : Int) + a.size - 1) (by omega) h1 (by omega)
    have ih2 := part_ok hl c (b + a.size) n (x - 1) (by omega) h2 (by omega)
    have ei : x.toNat = b + a.size + c.size := by omega
    have em : mx (a.depth : Int) (c.depth : Int) + 1 = ((max a.depth c.depth + 1 : Nat) : Int) := by unfold mx; split <;> omega
    have em2 : mx (a.depth : Int) (c.depth : Int) < 2000 := by unfold mx; split <;> omega
    have em3 : 0 ≤ mx (a.depth : Int) (c.depth : Int) := by unfold mx; split <;> omega
    have step : rule_part.j0 (fun l at_ => rule_part.F n (l, at_)) K (true, ((b + a.size + c.size : Nat) : Int) - 1, ((b + a.size : Nat) : Int) - 1, 0, (), l, x) = some ((b : Int), ((max a.depth c.depth + 1 : Nat) : Int), true) := by
      unfold rule_part.j0
      dsimp only
      have e3 : ((b + a.size : Nat) : Int) - 1 = (b : Int) + a.size - 1 := by omega
      rw [sel_t, w64_small (by omega) (by omega), ih2, obind_some]
      dsimp only
      rw [e3] 
      simp (disch := omega) only [Bool.not_true, sel_f, sel_nef, w64_small]
      rw [ih1, obind_some]
      simp (disch := omega) only [w64_small, em]
    simp only [rule_part.F, rule_part.f, ei, h5]
    rcases h4 with rfl | rfl
    · simp (disch := omega) only [sel_df, sel_dt, sel_eqt, sel_eqf]
      exact step
    · simp (disch := omega) only [sel_df, sel_dt, sel_eqt, sel_eqf]
      rw [show ((4 : Int) == 4) = true from rfl]
      exact step
theorem rright_ok {C : Nat} {l : List T.RuleNode} (h : RuleOk C l) : rule_right l = some true := by
  have hK := K_1000
  obtain ⟨⟨t, h1, h2, h3⟩, h4, _⟩ := h
  have sp := t.size_pos
  have hp : rule_part l ((l.length : Int) - 1) = some (0, (t.depth : Int), true) := by
    exact part_ok (by omega) t 0 K _ (by omega) h1 (by omega)
  unfold rule_right rule_right.f
  rw [sel_df (by omega), sel_df (by omega), w64_small (by omega) (by omega), hp, obind_some]
  dsimp only
  rw [sel_t, sel_eqt rfl, decide_eq_true (by omega)]
theorem rule_loop {C : Nat} {l : List T.RuleNode} (h : ∀ i, i < l.length → (rd l i default).Kind = 1 → (rd l i default).Cond < (C : Int)) (hl : l.length ≤ 1000) : ∀ (d i it : Nat), i + d = l.length → d < it → rule_Check.j0 K it ((i : Int), (l.length : Int), l, (C : Int)) = some 0
  | 0, i, it + 1, hi, hit => by
    rw [rule_Check.j0, sel_df (by omega)]
    rfl
  | d + 1, i, it + 1, hi, hit => by
    have g := h i (by omega)
    have ih := rule_loop h hl d (i + 1) it (by omega) (by omega)
    push_cast at ih
    rw [rule_Check.j0, Int.toNat_natCast]
    by_cases hk : (rd l i default).Kind = 1
    · have := g hk
      simp (disch := omega) only [sel_dt, sel_df, w64_small, sel_eqt]
      exact ih
    · simp (disch := omega) only [sel_dt, sel_df, w64_small, sel_eqf]
      exact ih
theorem rule_ok {C : Nat} {l : List T.RuleNode} (h : RuleOk C l) : rule_Check l (C : Int) = some 0 := by
  have hK := K_1000
  have h64 := h.len
  unfold rule_Check rule_Check.f
  rw [rright_ok h, obind_some, Bool.not_true, sel_f]
  exact rule_loop h.c (by omega) l.length 0 K (by omega) (by omega)
theorem czone_loop {R : Nat} {zr : List Int} {rs : List T.Road} (h : ∀ i, i < zr.length → 0 ≤ rd zr i default ∧ rd zr i default < (rs.length : Int)) (hm : ∀ i, 0 < i → i < zr.length → rd zr (i - 1) default < rd zr i default) (hl : zr.length ≤ 1000) : ∀ (d i it : Nat), i + d = zr.length → d < it →
    cutoff_checkZone.j0 K it ((i : Int), (zr.length : Int), zr, (), zr, (), rs) = some 0
  | 0, i, it + 1, hi, hit => by
    rw [cutoff_checkZone.j0, sel_df (by omega)]
    rfl
  | d + 1, i, it + 1, hi, hit => by
    have g := h i (by omega)
    have ih := czone_loop (R := R) h hm hl d (i + 1) it (by omega) (by omega)
    push_cast at ih
    rw [cutoff_checkZone.j0, Int.toNat_natCast, has_t g.1 g.2]
    by_cases h0 : 0 < i
    · have mm := hm i h0 (by omega)
      have e := toNat_pred h0
      simp (disch := omega) only [sel_dt, sel_df, w64_small, e, obind_some, Bool.not_true, sel_f]
      exact ih
    · simp (disch := omega) only [sel_dt, sel_df, w64_small, obind_some, Bool.not_true, sel_f]
      exact ih
theorem czone_ok {s : T.Site} {z : T.Zone} (h : ZoneOk s.Conds.length s.Air.Mine.Roads.length z) : cutoff_checkZone s z = some 0 := by
  have hK := K_1000
  obtain ⟨ru, h0, h1, f0, f1, rl, r, m⟩ := h
  unfold cutoff_checkZone cutoff_checkZone.f
  rw [rule_ok ru, obind_some]
  simp (disch := omega) only [sel_df, sel_nef]
  exact czone_loop (R := 0) r m (by omega) z.Roads.length 0 K (by omega) (by omega)
theorem cperson_loop {ps : List T.Person} (h : ∀ i, i < ps.length → 1 ≤ (rd ps i default).Role ∧ (rd ps i default).Role ≤ 3) (hl : ps.length ≤ 1000) : ∀ (d i it : Nat), i + d = ps.length → d < it → cutoff_Check.j2 K it ((i : Int), (ps.length : Int), ps) = some 0
  | 0, i, it + 1, hi, hit => by
    rw [cutoff_Check.j2, sel_df (by omega)]
    rfl
  | d + 1, i, it + 1, hi, hit => by
    have g := h i (by omega)
    have ih := cperson_loop h hl d (i + 1) it (by omega) (by omega)
    push_cast at ih
    rw [cutoff_Check.j2, Int.toNat_natCast]
    simp (disch := omega) only [sel_dt, sel_df, w64_small]
    exact ih
theorem czones_loop {s : T.Site} {l : List T.Zone} (h : ∀ i, i < l.length → ZoneOk s.Conds.length s.Air.Mine.Roads.length (rd l i default)) (hl : l.length ≤ 1000) : ∀ (d i it : Nat), i + d = l.length → d < it →
    cutoff_Check.j1 K it ((i : Int), (l.length : Int), l, (), s.Persons, s.Zones, s.Conds, s.Sensors, s.Air.Doors, s.Air.Fans, s.Air.Mine.Roads, s.Air.Mine.Places) = cutoff_Check.j4 K ((), s.Persons)
  | 0, i, it + 1, hi, hit => by
    rw [cutoff_Check.j1, sel_df (by omega)]
  | d + 1, i, it + 1, hi, hit => by
    have g := czone_ok (s := s) (h i (by omega))
    have ih := czones_loop h hl d (i + 1) it (by omega) (by omega)
    push_cast at ih
    rw [cutoff_Check.j1, Int.toNat_natCast]
    rw [show ({ Air := { Mine := { Places := s.Air.Mine.Places, Roads := s.Air.Mine.Roads }, Fans := s.Air.Fans, Doors := s.Air.Doors }, Sensors := s.Sensors, Conds := s.Conds, Zones := s.Zones, Persons := s.Persons } : T.Site) = s from rfl, g]
    simp (disch := omega) only [sel_dt, sel_nef, w64_small, obind_some]
    exact ih
theorem cconds_loop {s : T.Site} {l : List T.Cond} (h : ∀ i, i < l.length → CondOk s.Sensors s.Air.Mine.Roads.length (rd l i default)) (hl : l.length ≤ 1000) : ∀ (d i it : Nat), i + d = l.length → d < it →
    cutoff_Check.j0 K it ((i : Int), (l.length : Int), l, (), s.Persons, s.Zones, s.Conds, s.Sensors, s.Air.Doors, s.Air.Fans, s.Air.Mine.Roads, s.Air.Mine.Places) = cutoff_Check.j5 K ((), s.Persons, s.Zones, s.Conds, s.Sensors, s.Air.Doors, s.Air.Fans, s.Air.Mine.Roads, s.Air.Mine.Places)
  | 0, i, it + 1, hi, hit => by
    rw [cutoff_Check.j0, sel_df (by omega)]
  | d + 1, i, it + 1, hi, hit => by
    have g := ccond_ok (s := s) (h i (by omega))
    have ih := cconds_loop h hl d (i + 1) it (by omega) (by omega)
    push_cast at ih
    rw [cutoff_Check.j0, Int.toNat_natCast]
    rw [show ({ Air := { Mine := { Places := s.Air.Mine.Places, Roads := s.Air.Mine.Roads }, Fans := s.Air.Fans, Doors := s.Air.Doors }, Sensors := s.Sensors, Conds := s.Conds, Zones := s.Zones, Persons := s.Persons } : T.Site) = s from rfl, g]
    simp (disch := omega) only [sel_dt, sel_nef, w64_small, obind_some]
    exact ih
theorem cutoff_ok {s : T.Site} (h : SiteOk s) : cutoff_Check s = some 0 := by
  have hK := K_1000
  obtain ⟨air, sl, cl, zl, pl, se, a, c, z, p⟩ := h
  have e1 : cutoff_checkSensors s = some 0 := csens_loop se a (by omega) s.Sensors.length 0 K (by omega) (by omega)
  have e2 := cconds_loop c (by omega) s.Conds.length 0 K (by omega) (by omega)
  have e3 := czones_loop z (by omega) s.Zones.length 0 K (by omega) (by omega)
  rw [show ((0 : Nat) : Int) = 0 from rfl] at e2 e3
  unfold cutoff_Check cutoff_Check.f
  rw [branch_ok air, obind_some, e1, obind_some]
  simp (disch := omega) only [sel_df, sel_nef]
  rw [e2]
  unfold cutoff_Check.j5
  dsimp only
  rw [e3]
  exact cperson_loop p (by omega) s.Persons.length 0 K (by omega) (by omega)
end Go.Proofs.Ytlhknehkcflkgaa

/- The reference's check finds no error in a site that is right. -/
namespace Go.Proofs.Ytlhknehkcflkgaa
open Go Ab
theorem rspan_t {s : T.Span} {lo hi : Int} (h1 : lo ≤ s.Low) (h2 : s.Low ≤ s.High) (h3 : s.High ≤ hi) : ref01_Span s lo hi = some true := by
  unfold ref01_Span ref01_Span.f
  rw [sel_dt h1, sel_dt h2, decide_eq_true h3]
theorem rplan_roads {rs : List T.Road} {ps : List T.Place} (h : ∀ i, i < rs.length → RoadOk ps.length (rd rs i default)) (hl : rs.length ≤ 1000) : ∀ (d i it : Nat), i + d = rs.length → d < it → ref01_Check.j1 K it ((i : Int), (), rs, ps) = some 0
  | 0, i, it + 1, hi, hit => by
    rw [ref01_Check.j1, sel_df (by omega)]
    rfl
  | d + 1, i, it + 1, hi, hit => by
    obtain ⟨f0, f1, t0, t1, ne, l0, l1, a0, a1, r0, r1, r2, v0, v1, v2⟩ := h i (by omega)
    have ih := rplan_roads h hl d (i + 1) it (by omega) (by omega)
    push_cast at ih
    rw [ref01_Check.j1, Int.toNat_natCast]
    generalize rd rs i default = r at *
    simp (disch := omega) only [sel_dt, sel_df, sel_eqf, w64_small, rspan_t, obind_some, Bool.not_true, sel_f]
    exact ih
theorem rplan_places {ps : List T.Place} (h : ∀ i, i < ps.length → -10000 ≤ (rd ps i default).Height ∧ (rd ps i default).Height ≤ 10000) (hl : ps.length ≤ 1000) (rs : List T.Road) : ∀ (d i it : Nat), i + d = ps.length → d < it → ref01_Check.j0 K it ((i : Int), (), rs, ps) = ref01_Check.j3 K ((), rs, ps)
  | 0, i, it + 1, hi, hit => by
    rw [ref01_Check.j0, sel_df (by omega)]
  | d + 1, i, it + 1, hi, hit => by
    have g := h i (by omega)
    have ih := rplan_places h hl rs d (i + 1) it (by omega) (by omega)
    push_cast at ih
    rw [ref01_Check.j0, Int.toNat_natCast]
    simp (disch := omega) only [sel_dt, sel_df, w64_small]
    exact ih
theorem rplan_ok {m : T.Mine} (h : MineOk m) : ref01_Check m = some 0 := by
  have hK := K_1000
  obtain ⟨pl, rl, p, r⟩ := h
  unfold ref01_Check ref01_Check.f
  rw [sel_df (by omega), sel_df (by omega)]
  have e := rplan_places p (by omega) m.Roads m.Places.length 0 K (by omega) (by omega)
  rw [show ((0 : Nat) : Int) = 0 from rfl] at e
  rw [e]
  exact rplan_roads r (by omega) m.Roads.length 0 K (by omega) (by omega)
theorem rfan_loop {n : Nat} {f : T.Fan} (h : FanOk n f) : ∀ (d i it : Nat), i + d = f.Curve.length → d < it → ref07_Check.j0 K it ((i : Int), (), f.Curve) = some 0
  | 0, i, it + 1, hi, hit => by
    rw [ref07_Check.j0, sel_df (by omega)]
    rfl
  | d + 1, i, it + 1, hi, hit => by
    have g := h.p i (by omega)
    have c1 := h.c1
    have ih := rfan_loop h d (i + 1) it (by omega) (by omega)
    push_cast at ih
    rw [ref07_Check.j0, Int.toNat_natCast]
    by_cases h0 : 0 < i
    · have mm := h.m i h0 (by omega)
      have e := toNat_pred h0
      simp (disch := omega) only [sel_dt, sel_df, w64_small, e]
      exact ih
    · simp (disch := omega) only [sel_dt, sel_df, w64_small]
      exact ih
theorem rfan_ok {n : Nat} {f : T.Fan} (h : FanOk n f) : ref07_Check f = some 0 := by
  have hK := K_1000
  have hl := rfan_loop h f.Curve.length 0 K (by omega) (by have := h.c1; omega)
  obtain ⟨r0, r1, c0, c1, _, _⟩ := h
  unfold ref07_Check ref07_Check.f
  rw [sel_df (by omega), sel_df (by omega), sel_df (by omega)]
  exact hl
theorem rdoor_loop1 {n : Nat} {d : T.Door} (h : DoorOk n d) (g0 : _) (ii : Int) (l : List T.Door) : ∀ (d' i it : Nat), i + d' = d.Rests.length → d' < it → ref08_Check.j1 K g0 it ((i : Int), d.Rests, d.Other, (), ii, l) = ref08_Check.j4 K g0 (d.Rests, d.Other, (), ii, l)
  | 0, i, it + 1, hi, hit => by
    rw [ref08_Check.j1, sel_df (by omega)]
  | d' + 1, i, it + 1, hi, hit => by
    have g := h.p i (by omega)
    have c1 := h.c1
    have ih := rdoor_loop1 h g0 ii l d' (i + 1) it (by omega) (by omega)
    push_cast at ih
    rw [ref08_Check.j1, Int.toNat_natCast]
    simp (disch := omega) only [sel_dt, sel_df, w64_small]
    exact ih
theorem rdoor_loop2 {n : Nat} {d : T.Door} (h : DoorOk n d) (g0 : _) (ii : Int) (l : List T.Door) : ∀ (d' i it : Nat), 0 < i → i + d' = d.Rests.length → d' < it → ref08_Check.j2 K g0 it ((i : Int), d.Rests, d.Other, (), ii, l) = ref08_Check.j3 K g0 (d.Other, (), ii, l)
  | 0, i, it + 1, h0, hi, hit => by
    rw [ref08_Check.j2, sel_df (by omega)]
  | d' + 1, i, it + 1, h0, hi, hit => by
    have g := h.m i h0 (by omega)
    have c1 := h.c1
    have e := toNat_pred h0
    have ih := rdoor_loop2 h g0 ii l d' (i + 1) it (by omega) (by omega) (by omega)
    push_cast at ih
    rw [ref08_Check.j2, Int.toNat_natCast]
    simp (disch := omega) only [sel_dt, sel_df, w64_small, e]
    exact ih
theorem rdoor_loop {n : Nat} {l : List T.Door} (h : ∀ i, i < l.length → DoorOk n (rd l i default)) (hl : l.length ≤ 1000) : ∀ (d i it : Nat), i + d = l.length → d < it → ref08_Check.j0 K it ((i : Int), l) = some 0
  | 0, i, it + 1, hi, hit => by
    rw [ref08_Check.j0, sel_df (by omega)]
    rfl
  | d + 1, i, it + 1, hi, hit => by
    have hK := K_1000
    have g := h i (by omega)
    have ih := rdoor_loop h hl d (i + 1) it (by omega) (by omega)
    push_cast at ih
    have e1 := rdoor_loop1 g (ref08_Check.j0 K it) (i : Int) l (rd l i default).Rests.length 0 K (by omega) (by have := g.c1; omega)
    have e2 := rdoor_loop2 g (ref08_Check.j0 K it) (i : Int) l ((rd l i default).Rests.length - 1) 1 K (by omega) (by have := g.c0; omega) (by have := g.c1; omega)
    rw [show ((0 : Nat) : Int) = 0 from rfl] at e1
    rw [show ((1 : Nat) : Int) = 1 from rfl] at e2
    obtain ⟨r0, r1, c0, c1, _, _, o⟩ := g
    rw [ref08_Check.j0, Int.toNat_natCast]
    simp (disch := omega) only [sel_dt, sel_df]
    rw [e1]
    unfold ref08_Check.j4
    dsimp only
    rw [e2, o]
    unfold ref08_Check.j3 ref08_Check.j5
    dsimp only
    simp (disch := omega) only [w64_small, sel_nef]
    exact ih
theorem rdoor_ok {n : Nat} {l : List T.Door} (hl : l.length ≤ 16) (h : ∀ i, i < l.length → DoorOk n (rd l i default)) : ref08_Check l = some 0 := by
  have hK := K_1000
  unfold ref08_Check ref08_Check.f
  rw [sel_df (by omega)]
  exact rdoor_loop h (by omega) l.length 0 K (by omega) (by omega)
theorem rbranch_doors {ds : List T.Door} {rs : List T.Road} (h : ∀ i, i < ds.length → DoorOk rs.length (rd ds i default)) (hl : ds.length ≤ 1000) : ∀ (d i it : Nat), i + d = ds.length → d < it → ref09_Check.j1 K it ((i : Int), (), ds, rs) = some 0
  | 0, i, it + 1, hi, hit => by
    rw [ref09_Check.j1, sel_df (by omega)]
    rfl
  | d + 1, i, it + 1, hi, hit => by
    have g := (h i (by omega)).r1
    have ih := rbranch_doors h hl d (i + 1) it (by omega) (by omega)
    push_cast at ih
    rw [ref09_Check.j1, Int.toNat_natCast]
    simp (disch := omega) only [sel_dt, sel_df, w64_small]
    exact ih
theorem rbranch_fans {fs : List T.Fan} {ds : List T.Door} {rs : List T.Road} (h : ∀ i, i < fs.length → FanOk rs.length (rd fs i default)) (hl : fs.length ≤ 1000) : ∀ (d i it : Nat), i + d = fs.length → d < it → ref09_Check.j0 K it ((i : Int), (), ds, fs, rs) = ref09_Check.j3 K ((), ds, rs)
  | 0, i, it + 1, hi, hit => by
    rw [ref09_Check.j0, sel_df (by omega)]
  | d + 1, i, it + 1, hi, hit => by
    have g := h i (by omega)
    have g1 := g.r1
    have e := rfan_ok g
    have ih := rbranch_fans (ds := ds) h hl d (i + 1) it (by omega) (by omega)
    push_cast at ih
    rw [ref09_Check.j0, Int.toNat_natCast]
    simp (disch := omega) only [sel_dt, sel_df, w64_small, e, obind_some, sel_nef]
    exact ih
theorem rbranch_ok {a : T.Air} (h : AirOk a) : ref09_Check a = some 0 := by
  have hK := K_1000
  obtain ⟨m, fl, f, dl, d⟩ := h
  unfold ref09_Check ref09_Check.f
  rw [rplan_ok m, obind_some, sel_nef rfl, sel_df (by omega)]
  have e := rbranch_fans (ds := a.Doors) f (by omega) a.Fans.length 0 K (by omega) (by omega)
  rw [show ((0 : Nat) : Int) = 0 from rfl] at e
  rw [e]
  unfold ref09_Check.j3
  dsimp only
  rw [rdoor_ok dl d, obind_some, sel_nef rfl]
  exact rbranch_doors d (by omega) a.Doors.length 0 K (by omega) (by omega)
theorem rin_t {lo hi x : Int} (h1 : lo ≤ x) (h2 : x ≤ hi) : ref05_in x lo hi = some true := by
  unfold ref05_in ref05_in.f
  rw [sel_dt (by omega), decide_eq_true h2]
theorem rsensor_ok {R F D : Nat} {x : T.Sensor} (h : SensorOk R F D x) : ref05_Check x = some 0 := by
  obtain ⟨k0, k1, a0, a1, t0, _, _, _, o0, o1, s0, s1, e0, e1, d0, d1, l0, l1⟩ := h
  unfold ref05_Check ref05_Check.f
  simp (disch := omega) only [rin_t, obind_some, Bool.not_true, sel_f, sel_df]
theorem rsens_loop1 {ss : List T.Sensor} {addr : Int} (n : Nat) (h : ∀ j, j < n → (rd ss j default).Address ≠ addr) (g0 : _) (ds : List T.Door) (fs : List T.Fan) (rs : List T.Road) (hn : n ≤ ss.length) (hl : n ≤ 1000) : ∀ (d j it : Nat), j + d = n → d < it →
    ref20_sensors.j1 K g0 it ((j : Int), addr, (), (n : Int), (), ss, ds, fs, rs) = ref20_sensors.j4 K g0 ((n : Int), (), ss, ds, fs, rs)
  | 0, j, it + 1, hi, hit => by
    rw [ref20_sensors.j1, sel_df (by omega)]
  | d + 1, j, it + 1, hi, hit => by
    have g := h j (by omega)
    have ih := rsens_loop1 n h g0 ds fs rs hn hl d (j + 1) it (by omega) (by omega)
    push_cast at ih
    rw [ref20_sensors.j1, Int.toNat_natCast]
    simp (disch := omega) only [sel_dt, sel_eqf, w64_small]
    exact ih
theorem rsens_loop {ss : List T.Sensor} {ds : List T.Door} {fs : List T.Fan} {rs : List T.Road} (h : ∀ i, i < ss.length → SensorOk rs.length fs.length ds.length (rd ss i default)) (ha : ∀ i j, i < ss.length → j < i → (rd ss j default).Address ≠ (rd ss i default).Address) (hl : ss.length ≤ 1000) : ∀ (d i it : Nat), i + d = ss.length → d < it →
    ref20_sensors.j0 K it ((i : Int), (), ss, ds, fs, rs) = some 0
  | 0, i, it + 1, hi, hit => by
    rw [ref20_sensors.j0, sel_df (by omega)]
    rfl
  | d + 1, i, it + 1, hi, hit => by
    have hK := K_1000
    have g := h i (by omega)
    have e := rsensor_ok g
    have ih := rsens_loop h ha hl d (i + 1) it (by omega) (by omega)
    push_cast at ih
    have e1 := rsens_loop1 (ss := ss) (addr := (rd ss i default).Address) i (fun j hj => ha i j (by omega) hj) (ref20_sensors.j0 K it) ds fs rs (by omega) (by omega) i 0 K (by omega) (by omega)
    rw [show ((0 : Nat) : Int) = 0 from rfl] at e1
    have step : ∀ of : Int, (rd ss i default).Target < of → ref20_sensors.j2 K (ref20_sensors.j0 K it) (of, (rd ss i default).Target, (rd ss i default).Address, (), (i : Int), (), ss, ds, fs, rs) = some 0 := by
      intro of hof
      unfold ref20_sensors.j2
      dsimp only
      rw [sel_df (by omega), e1]
      unfold ref20_sensors.j4
      dsimp only
      rw [w64_small (by omega) (by omega)]
      exact ih
    rw [ref20_sensors.j0, Int.toNat_natCast]
    simp (disch := omega) only [sel_dt, e, obind_some, sel_nef]
    unfold ref20_sensors.j3
    dsimp only
    by_cases h5 : (rd ss i default).Kind = 5
    · rw [sel_eqt h5, sel_eqf (by omega)]; exact step _ (g.tf h5)
    · rw [sel_eqf h5]
      by_cases h6 : (rd ss i default).Kind = 6
      · rw [sel_eqt h6]; exact step _ (g.td h6)
      · rw [sel_eqf h6]; exact step _ (g.tr h5 h6)
theorem rlevel_ok {l : T.Level} (h : LevelOk l) : ref17_Check l = some 0 := by
  obtain ⟨c0, c1, c2, d0, d1⟩ := h
  unfold ref17_Check ref17_Check.f
  simp (disch := omega) only [sel_df]
theorem rcond_ok {s : T.Site} {c : T.Cond} (h : CondOk s.Sensors s.Air.Mine.Roads.length c) : ref20_cond s c = some 0 := by
  obtain ⟨k0, k1, t0, ts, tf, tr, v0, v1, l⟩ := h
  have e := rlevel_ok l
  have e1 : ref20_cond.j1 K ((), c.Level.Delay, c.Level.Clear, c.Level.Cut, c.Value, c.Kind) = some 0 := by
    unfold ref20_cond.j1
    dsimp only
    rw [sel_df (by omega), sel_df (by omega), show ({ Cut := c.Level.Cut, Clear := c.Level.Clear, Delay := c.Level.Delay } : T.Level) = c.Level from rfl, e, obind_some]
    cases (c.Kind == 1) <;> rfl
  unfold ref20_cond ref20_cond.f ref20_cond.j0
  dsimp only
  rcases (by omega : c.Kind = 1 ∨ c.Kind = 2 ∨ c.Kind = 3 ∨ c.Kind = 4 ∨ c.Kind = 5) with hk | hk | hk | hk | hk
  · have := ts (by omega)
    simp (disch := omega) only [sel_eqt, sel_eqf, sel_t, sel_df, e1]
  · have := ts (by omega)
    simp (disch := omega) only [sel_eqt, sel_eqf, sel_t, sel_df, e1]
  · have := ts (by omega)
    have hf := tf hk
    simp (disch := omega) only [sel_eqt, sel_eqf, sel_t, sel_dt, sel_df, sel_nef, e1]
  · have := ts (by omega)
    simp (disch := omega) only [sel_eqt, sel_eqf, sel_t, sel_df, e1]
  · have := tr hk
    simp (disch := omega) only [sel_eqt, sel_eqf, sel_t, sel_f, sel_df, e1]
theorem rpart_ok {l : List T.RuleNode} (hl : l.length ≤ 1000) : ∀ (t : RT) (b n : Nat) (x : Int), x = (b : Int) + (t.size : Int) - 1 → t.at l b → t.depth ≤ n → ref19_part.F n (l, x) = some ((b : Int), (t.depth : Int))
  | .cond c, b, n, x, hx, h, hn => by
    obtain ⟨h1, h2, h3, h4⟩ := h
    simp only [RT.depth, RT.size] at hn hx ⊢
    obtain ⟨n, rfl⟩ : ∃ m, n = m + 1 := ⟨n - 1, by omega⟩
    have ei : x.toNat = b := by omega
    simp only [ref19_part.F, ref19_part.f, ei, h2]
    simp (disch := omega) only [sel_df, sel_dt, sel_eqt, sel_nef]
    rw [show x = (b : Int) by omega]
    rfl
  | .not a, b, n, x, hx, h, hn => by
    have hlen := RT.at_len h
    obtain ⟨h1, h2, h3⟩ := h
    simp only [RT.depth, RT.size] at hn hx ⊢
    obtain ⟨n, rfl⟩ : ∃ m, n = m + 1 := ⟨n - 1, by omega⟩
    have ih := rpart_ok hl a b n (x - 1) (by omega) h1 (by omega)
    have hd := a.depth_le
    have ei : x.toNat = b + a.size := by omega
    simp only [ref19_part.F, ref19_part.f, ei, h3]
    simp (disch := omega) only [sel_df, sel_dt, sel_eqt, sel_eqf, sel_nef, w64_small, ih, obind_some, sel_t]
    rfl
  | .bin k a c, b, n, x, hx, h, hn => by
    have hlen := RT.at_len h
    obtain ⟨h1, h2, h3, h4, h5⟩ := h
    simp only [RT.depth, RT.size] at hn hx hlen ⊢
    obtain ⟨n, rfl⟩ : ∃ m, n = m + 1 := ⟨n - 1, by omega⟩
    have sa := a.size_pos
    have sc := c.size_pos
    have da := a.depth_le
    have dc := c.depth_le
    have ih1 := rpart_ok hl a b n ((b : Int) + a.size - 1) (by omega) h1 (by omega)
    have ih2 := rpart_ok hl c (b + a.size) n (x - 1) (by omega) h2 (by omega)
    have ei : x.toNat = b + a.size + c.size := by omega
    have em : mx (a.depth : Int) (c.depth : Int) + 1 = ((max a.depth c.depth + 1 : Nat) : Int) := by unfold mx; split <;> omega
    have em2 : mx (a.depth : Int) (c.depth : Int) < 2000 := by unfold mx; split <;> omega
    have em3 : 0 ≤ mx (a.depth : Int) (c.depth : Int) := by unfold mx; split <;> omega
    have step : ref19_part.j0 (fun l at_ => ref19_part.F n (l, at_)) K (true, ((b + a.size + c.size : Nat) : Int) - 1, ((b + a.size : Nat) : Int) - 1, 0, (), l, x) = some ((b : Int), ((max a.depth c.depth + 1 : Nat) : Int)) := by
      unfold ref19_part.j0
      dsimp only
      have e3 : ((b + a.size : Nat) : Int) - 1 = (b : Int) + a.size - 1 := by omega
      rw [sel_t, w64_small (by omega) (by omega)]
      simp (disch := omega) only [sel_nef, ih2, obind_some, sel_df, w64_small]
      rw [e3, ih1, obind_some]
      simp (disch := omega) only [w64_small, em]
    simp only [ref19_part.F, ref19_part.f, ei, h5]
    rcases h4 with rfl | rfl
    · simp (disch := omega) only [sel_df, sel_dt, sel_eqt, sel_eqf]
      exact step
    · simp (disch := omega) only [sel_df, sel_dt, sel_eqt, sel_eqf]
      rw [show ((4 : Int) == 4) = true from rfl]
      exact step
theorem rrright_ok {C : Nat} {l : List T.RuleNode} (h : RuleOk C l) : ref19_Right l = some true := by
  have hK := K_1000
  obtain ⟨⟨t, h1, h2, h3⟩, h4, _⟩ := h
  have sp := t.size_pos
  have hp : ref19_part l ((l.length : Int) - 1) = some (0, (t.depth : Int)) := by
    exact rpart_ok (by omega) t 0 K _ (by omega) h1 (by omega)
  unfold ref19_Right ref19_Right.f
  rw [sel_df (by omega), sel_df (by omega), w64_small (by omega) (by omega), hp, obind_some]
  dsimp only
  rw [sel_eqt rfl, decide_eq_true (by omega)]
theorem rrule_loop {C : Nat} {l : List T.RuleNode} (h : ∀ i, i < l.length → (rd l i default).Kind = 1 → (rd l i default).Cond < (C : Int)) (hl : l.length ≤ 1000) : ∀ (d i it : Nat), i + d = l.length → d < it → ref19_Check.j0 K it ((i : Int), l, (C : Int)) = some 0
  | 0, i, it + 1, hi, hit => by
    rw [ref19_Check.j0, sel_df (by omega)]
    rfl
  | d + 1, i, it + 1, hi, hit => by
    have g := h i (by omega)
    have ih := rrule_loop h hl d (i + 1) it (by omega) (by omega)
    push_cast at ih
    rw [ref19_Check.j0, Int.toNat_natCast]
    by_cases hk : (rd l i default).Kind = 1
    · have := g hk
      simp (disch := omega) only [sel_dt, sel_df, w64_small, sel_eqt]
      exact ih
    · simp (disch := omega) only [sel_dt, sel_df, w64_small, sel_eqf]
      exact ih
theorem rrule_ok {C : Nat} {l : List T.RuleNode} (h : RuleOk C l) : ref19_Check l (C : Int) = some 0 := by
  have hK := K_1000
  have h64 := h.len
  unfold ref19_Check ref19_Check.f
  rw [rrright_ok h, obind_some, Bool.not_true, sel_f]
  exact rrule_loop h.c (by omega) l.length 0 K (by omega) (by omega)
theorem rzone_loop {zr : List Int} {rs : List T.Road} (h : ∀ i, i < zr.length → 0 ≤ rd zr i default ∧ rd zr i default < (rs.length : Int)) (hm : ∀ i, 0 < i → i < zr.length → rd zr (i - 1) default < rd zr i default) (hl : zr.length ≤ 1000) : ∀ (d i it : Nat), i + d = zr.length → d < it →
    ref20_zone.j0 K it ((i : Int), (), zr, (), rs) = some 0
  | 0, i, it + 1, hi, hit => by
    rw [ref20_zone.j0, sel_df (by omega)]
    rfl
  | d + 1, i, it + 1, hi, hit => by
    have g := h i (by omega)
    have ih := rzone_loop h hm hl d (i + 1) it (by omega) (by omega)
    push_cast at ih
    rw [ref20_zone.j0, Int.toNat_natCast]
    by_cases h0 : 0 < i
    · have mm := hm i h0 (by omega)
      have e := toNat_pred h0
      simp (disch := omega) only [sel_dt, sel_df, w64_small, e]
      exact ih
    · simp (disch := omega) only [sel_dt, sel_df, w64_small]
      exact ih
theorem rzone_ok {s : T.Site} {z : T.Zone} (h : ZoneOk s.Conds.length s.Air.Mine.Roads.length z) : ref20_zone s z = some 0 := by
  have hK := K_1000
  obtain ⟨ru, h0, h1, f0, f1, rl, r, m⟩ := h
  unfold ref20_zone ref20_zone.f
  rw [rrule_ok ru, obind_some]
  simp (disch := omega) only [sel_df, sel_nef]
  exact rzone_loop r m (by omega) z.Roads.length 0 K (by omega) (by omega)
theorem rperson_loop {ps : List T.Person} (h : ∀ i, i < ps.length → 1 ≤ (rd ps i default).Role ∧ (rd ps i default).Role ≤ 3) (hl : ps.length ≤ 1000) : ∀ (d i it : Nat), i + d = ps.length → d < it → ref20_Check.j2 K it ((i : Int), (), ps) = some 0
  | 0, i, it + 1, hi, hit => by
    rw [ref20_Check.j2, sel_df (by omega)]
    rfl
  | d + 1, i, it + 1, hi, hit => by
    have g := h i (by omega)
    have ih := rperson_loop h hl d (i + 1) it (by omega) (by omega)
    push_cast at ih
    rw [ref20_Check.j2, Int.toNat_natCast]
    simp (disch := omega) only [sel_dt, sel_df, w64_small]
    exact ih
theorem rzones_loop {s : T.Site} (h : ∀ i, i < s.Zones.length → ZoneOk s.Conds.length s.Air.Mine.Roads.length (rd s.Zones i default)) (hl : s.Zones.length ≤ 1000) : ∀ (d i it : Nat), i + d = s.Zones.length → d < it →
    ref20_Check.j1 K it ((i : Int), (), s.Persons, s.Zones, s.Conds, s.Sensors, s.Air.Doors, s.Air.Fans, s.Air.Mine.Roads, s.Air.Mine.Places) = ref20_Check.j4 K ((), s.Persons)
  | 0, i, it + 1, hi, hit => by
    rw [ref20_Check.j1, sel_df (by omega)]
  | d + 1, i, it + 1, hi, hit => by
    have g := rzone_ok (s := s) (h i (by omega))
    have ih := rzones_loop h hl d (i + 1) it (by omega) (by omega)
    push_cast at ih
    rw [ref20_Check.j1, Int.toNat_natCast]
    rw [show ({ Air := { Mine := { Places := s.Air.Mine.Places, Roads := s.Air.Mine.Roads }, Fans := s.Air.Fans, Doors := s.Air.Doors }, Sensors := s.Sensors, Conds := s.Conds, Zones := s.Zones, Persons := s.Persons } : T.Site) = s from rfl, g]
    simp (disch := omega) only [sel_dt, sel_nef, w64_small, obind_some]
    exact ih
theorem rconds_loop {s : T.Site} (h : ∀ i, i < s.Conds.length → CondOk s.Sensors s.Air.Mine.Roads.length (rd s.Conds i default)) (hl : s.Conds.length ≤ 1000) : ∀ (d i it : Nat), i + d = s.Conds.length → d < it →
    ref20_Check.j0 K it ((i : Int), (), s.Persons, s.Zones, s.Conds, s.Sensors, s.Air.Doors, s.Air.Fans, s.Air.Mine.Roads, s.Air.Mine.Places) = ref20_Check.j5 K ((), s.Persons, s.Zones, s.Conds, s.Sensors, s.Air.Doors, s.Air.Fans, s.Air.Mine.Roads, s.Air.Mine.Places)
  | 0, i, it + 1, hi, hit => by
    rw [ref20_Check.j0, sel_df (by omega)]
  | d + 1, i, it + 1, hi, hit => by
    have g := rcond_ok (s := s) (h i (by omega))
    have ih := rconds_loop h hl d (i + 1) it (by omega) (by omega)
    push_cast at ih
    rw [ref20_Check.j0, Int.toNat_natCast]
    rw [show ({ Air := { Mine := { Places := s.Air.Mine.Places, Roads := s.Air.Mine.Roads }, Fans := s.Air.Fans, Doors := s.Air.Doors }, Sensors := s.Sensors, Conds := s.Conds, Zones := s.Zones, Persons := s.Persons } : T.Site) = s from rfl, g]
    simp (disch := omega) only [sel_dt, sel_nef, w64_small, obind_some]
    exact ih
theorem rcutoff_ok {s : T.Site} (h : SiteOk s) : ref20_Check s = some 0 := by
  have hK := K_1000
  obtain ⟨air, sl, cl, zl, pl, se, a, c, z, p⟩ := h
  have e1 : ref20_sensors s = some 0 := rsens_loop se a (by omega) s.Sensors.length 0 K (by omega) (by omega)
  have e2 := rconds_loop c (by omega) s.Conds.length 0 K (by omega) (by omega)
  have e3 := rzones_loop z (by omega) s.Zones.length 0 K (by omega) (by omega)
  rw [show ((0 : Nat) : Int) = 0 from rfl] at e2 e3
  unfold ref20_Check ref20_Check.f
  rw [rbranch_ok air, obind_some, e1, obind_some]
  simp (disch := omega) only [sel_df, sel_nef]
  rw [e2]
  unfold ref20_Check.j5
  dsimp only
  rw [e3]
  exact rperson_loop p (by omega) s.Persons.length 0 K (by omega) (by omega)
end Go.Proofs.Ytlhknehkcflkgaa

/- Runs that come to an end with a result of which something is known; what is drawn first. -/
namespace Go.Proofs.Ytlhknehkcflkgaa
open Go Ab
/-- a run comes to an end, and this is known of its result -/
def Okk {β : Type} (x : Option β) (Q : β → Prop) : Prop := ∃ y, x = some y ∧ Q y
theorem Okk.some {β : Type} {y : β} {Q : β → Prop} (h : Q y) : Okk (some y) Q := ⟨y, rfl, h⟩
theorem Okk.bind {β γ : Type} {x : Option β} {k : β → Option γ} {P : β → Prop} {Q : γ → Prop} (h : Okk x P) (H : ∀ y, P y → Okk (k y) Q) : Okk (obind x k) Q := by
  obtain ⟨y, rfl, hy⟩ := h
  exact H y hy
theorem Okk.sel {β : Type} {c : Bool} {a b : Option β} {Q : β → Prop} (h1 : c = true → Okk a Q) (h2 : c = false → Okk b Q) : Okk (sel c a b) Q := by
  cases c
  · exact h2 rfl
  · exact h1 rfl
theorem Okk.seld {β : Type} {p : Prop} [Decidable p] {a b : Option β} {Q : β → Prop} (h1 : p → Okk a Q) (h2 : ¬ p → Okk b Q) : Okk (Ab.sel (decide p) a b) Q := by
  by_cases h : p
  · rw [sel_dt h]; exact h1 h
  · rw [sel_df h]; exact h2 h
theorem Okk.mono {β : Type} {x : Option β} {P Q : β → Prop} (h : Okk x P) (H : ∀ y, P y → Q y) : Okk x Q := by
  obtain ⟨y, e, hy⟩ := h
  exact ⟨y, e, H y hy⟩
theorem rd_snoc_lt {β : Type} {xs : List β} {x d : β} {i : Nat} (h : i < xs.length) : rd (xs ++ [x]) i d = rd xs i d := by
  simp [rd, List.getD, List.getElem?_append_left h]
theorem rd_snoc_eq {β : Type} {xs : List β} {x d : β} : rd (xs ++ [x]) xs.length d = x := by
  simp [rd, List.getD]
/-- what holds of each element still does -/
theorem all_snoc {β : Type} [Inhabited β] {xs : List β} {x : β} {P : β → Prop} (h : ∀ i, i < xs.length → P (rd xs i default)) (hx : P x) : ∀ i, i < (xs ++ [x]).length → P (rd (xs ++ [x]) i default) := by
  intro i hi
  by_cases h1 : i < xs.length
  · rw [rd_snoc_lt h1]; exact h i h1
  · have : i = xs.length := by simp at hi; omega
    subst this
    rw [rd_snoc_eq]; exact hx
theorem all_nil {β : Type} [Inhabited β] {P : β → Prop} : ∀ i, i < ([] : List β).length → P (rd [] i default) := fun i hi => by simp at hi
theorem all_set {β : Type} [Inhabited β] {xs : List β} {x : β} {n : Nat} {P : β → Prop} (h : ∀ i, i < xs.length → P (rd xs i default)) (hx : P x) : ∀ i, i < (xs.set n x).length → P (rd (xs.set n x) i default) := by
  intro i hi
  rw [List.length_set] at hi
  by_cases h1 : n = i
  · subst h1
    simpa [rd, List.getD, hi] using hx
  · have : rd (xs.set n x) i default = rd xs i default := by simp [rd, List.getD, List.getElem?_set_ne h1]
    rw [this]; exact h i hi
theorem rd_set_eq {β : Type} {xs : List β} {x d : β} {n : Nat} (h : n < xs.length) : rd (xs.set n x) n d = x := by simp [rd, List.getD, h]
theorem rd_set_ne {β : Type} {xs : List β} {x d : β} {n i : Nat} (h : n ≠ i) : rd (xs.set n x) i d = rd xs i d := by simp [rd, List.getD, List.getElem?_set_ne h]
theorem rd_repl {β : Type} {n i : Nat} {x d : β} (h : i < n) : rd (List.replicate n x) i d = x := by simp [rd, List.getD, h]
/-! choices -/
def CO (l : List Int) (a : Int) : Prop := CodesOk ⟨l, a⟩
theorem next_o {l : List Int} {a n : Int} (h : CO l a) (hn : 1 ≤ n) : Okk (Codes_Next ⟨l, a⟩ n) fun r => 0 ≤ r.1 ∧ r.1 < n ∧ CO l r.2.at_ := by
  obtain ⟨v, a', e, h1, h2, h3, h4⟩ := next_ok h hn
  exact ⟨_, e, h1, h2, h.upd h3 h4⟩
theorem one_o {l : List Int} {a n : Int} (h : CO l a) (hn : 1 ≤ n) : Okk (Codes_One ⟨l, a⟩ n) fun r => CO l r.2.at_ := by
  unfold Codes_One Codes_One.f
  exact (next_o h hn).bind fun r hr => .some hr.2.2
theorem range_o {l : List Int} {a lo hi : Int} (h : CO l a) (h1 : lo ≤ hi) (h2 : -1000000 ≤ lo) (h3 : hi ≤ 1000000) : Okk (Codes_Range ⟨l, a⟩ lo hi) fun r => lo ≤ r.1 ∧ r.1 ≤ hi ∧ CO l r.2.at_ := by
  obtain ⟨v, a', e, g1, g2, g3, g4⟩ := range_ok h h1 h2 h3
  exact ⟨_, e, g1, g2, h.upd g3 g4⟩
/-- a road as it is drawn -/
structure RoadDrawn (f t : Int) (r : T.Road) : Prop where
  f : r.From = f
  t : r.To = t
  l0 : 1 ≤ r.Length
  l1 : r.Length ≤ 400
  a0 : 4 ≤ r.Area
  a1 : r.Area ≤ 30
  r0 : 1 ≤ r.Rest.Low
  r1 : r.Rest.Low ≤ r.Rest.High
  r2 : r.Rest.High ≤ 22
  v0 : -300 ≤ r.Lift.Low
  v1 : r.Lift.Low ≤ r.Lift.High
  v2 : r.Lift.High ≤ 400
  c : r.Closed = false
theorem road_o {l : List Int} {a : Int} (h : CO l a) (f t : Int) : Okk (Codes_Road ⟨l, a⟩ f t) fun r => RoadDrawn f t r.1 ∧ CO l r.2.at_ := by
  unfold Codes_Road Codes_Road.f
  refine (range_o h (by omega) (by omega) (by omega)).bind fun r0 ⟨a0, b0, h⟩ => ?_
  refine (range_o h (by omega) (by omega) (by omega)).bind fun r1 ⟨a1, b1, h⟩ => ?_
  refine (next_o h (by omega)).bind fun r2 ⟨a2, b2, h⟩ => ?_
  refine (range_o h (by omega) (by omega) (by omega)).bind fun r3 ⟨a3, b3, h⟩ => ?_
  refine (next_o h (by omega)).bind fun r4 ⟨a4, b4, h⟩ => ?_
  refine (range_o h (by omega) (by omega) (by omega)).bind fun r5 ⟨a5, b5, h⟩ => ?_
  refine (next_o h (by omega)).bind fun r6 ⟨a6, b6, h⟩ => ?_
  rw [w64_small (by omega) (by omega), w64_small (by omega) (by omega)]
  exact .some ⟨⟨rfl, rfl, a0, b0, a1, b1, a3, by dsimp only; omega, by dsimp only; omega, by dsimp only; omega, by dsimp only; omega, by dsimp only; omega, rfl⟩, h⟩
/-- a fan curve as it is drawn -/
structure CurveDrawn (c : List T.Point) : Prop where
  c0 : 1 ≤ c.length
  c1 : c.length ≤ 4
  p : ∀ i, i < c.length → -20 ≤ (rd c i default).Flow ∧ (rd c i default).Flow ≤ 10 + 40 * (i : Int) ∧ 0 ≤ (rd c i default).Pressure ∧ (rd c i default).Pressure ≤ 3000
  m : ∀ i, 0 < i → i < c.length → (rd c (i - 1) default).Flow < (rd c i default).Flow ∧ (rd c i default).Pressure ≤ (rd c (i - 1) default).Pressure
theorem mx0 {x y : Int} (h : 0 ≤ y) (hx : x ≤ y) : 0 ≤ mx 0 x ∧ mx 0 x ≤ y := by unfold mx; split <;> omega
theorem curve_loop {l : List Int} : ∀ (it : Nat) (n a : Int) (c : List T.Point), CO l a → 0 ≤ n → n < (it : Int) → CurveDrawn c → (c.length : Int) + n ≤ 4 →
    Okk (Codes_Curve.j0 K it (n, a, c, (), l)) fun r => CurveDrawn r.1 ∧ CO l r.2.at_
  | 0, n, a, c, h, h0, hn, hc, hl => by omega
  | it + 1, n, a, c, h, h0, hn, hc, hl => by
    have c0 := hc.c0
    rw [Codes_Curve.j0]
    refine .seld (fun hp => ?_) (fun hp => ?_)
    · have e1 : w64 ((c.length : Int) - 1) = (c.length : Int) - 1 := w64_small (by omega) (by omega)
      have e2 : ((c.length : Int) - 1).toNat = c.length - 1 := by omega
      rw [e1, e2]
      simp (disch := omega) only [sel_dt]
      refine (range_o h (by omega) (by omega) (by omega)).bind fun r3 ⟨a3, b3, h⟩ => ?_
      refine (next_o h (by omega)).bind fun r4 ⟨a4, b4, h⟩ => ?_
      have hp1 := hc.p (c.length - 1) (by omega)
      generalize hq : rd c (c.length - 1) default = q at *
      have ec : ((c.length - 1 : Nat) : Int) = (c.length : Int) - 1 := by omega
      rw [ec] at hp1
      rw [w64_small (n := q.Flow + r3.1) (by omega) (by omega), w64_small (n := q.Pressure - r4.1) (by omega) (by omega), w64_small (n := n - 1) (by omega) (by omega)]
      rw [sel_dt (by simp; omega)]
      have hm := mx0 (x := q.Pressure - r4.1) (y := q.Pressure) (by omega) (by omega)
      refine curve_loop it (n - 1) _ _ h (by omega) (by omega) ⟨by simp, by simp; omega, fun i hi => ?_, fun i h1 hi => ?_⟩ (by simp; omega)
      · by_cases h1 : i < c.length
        · rw [rd_snoc_lt h1]; exact hc.p i h1
        · have : i = c.length := by simp at hi; omega
          subst this
          rw [rd_snoc_eq]
          exact ⟨by dsimp only; omega, by dsimp only; omega, hm.1, by dsimp only; omega⟩
      · by_cases h2 : i < c.length
        · rw [rd_snoc_lt h2, rd_snoc_lt (by omega)]; exact hc.m i h1 h2
        · have : i = c.length := by simp at hi; omega
          subst this
          rw [rd_snoc_eq, rd_snoc_lt (by omega), hq]
          exact ⟨by dsimp only; omega, hm.2⟩
    · exact .some ⟨hc, h⟩
theorem curve_o {l : List Int} {a : Int} (h : CO l a) : Okk (Codes_Curve ⟨l, a⟩) fun r => CurveDrawn r.1 ∧ CO l r.2.at_ := by
  have hK := K_1000
  unfold Codes_Curve Codes_Curve.f
  refine (range_o h (by omega) (by omega) (by omega)).bind fun r0 ⟨a0, b0, h⟩ => ?_
  refine (range_o h (by omega) (by omega) (by omega)).bind fun r1 ⟨a1, b1, h⟩ => ?_
  refine (next_o h (by omega)).bind fun r2 ⟨a2, b2, h⟩ => ?_
  refine curve_loop K r2.1 _ _ h a2 (by omega) ⟨by simp, by simp, fun i hi => ?_, fun i h1 hi => ?_⟩ (by simp; omega)
  · have : i = 0 := by simp at hi; omega
    subst this
    exact ⟨a0, by show r0.1 ≤ _; omega, by show 0 ≤ r1.1; omega, b1⟩
  · simp at hi; omega
/-- a door as it is drawn -/
structure DoorDrawn (road : Int) (d : T.Door) : Prop where
  r : d.Road = road
  o : d.Other = -1
  c0 : 2 ≤ d.Rests.length
  c1 : d.Rests.length ≤ 4
  p : ∀ i, i < d.Rests.length → 200 - 60 * (i : Int) ≤ rd d.Rests i default ∧ rd d.Rests i default ≤ 900
  m : ∀ i, 0 < i → i < d.Rests.length → rd d.Rests i default < rd d.Rests (i - 1) default
theorem door_loop_o {l : List Int} {road : Int} : ∀ (it : Nat) (n a : Int) (c : List Int), CO l a → 0 ≤ n → n < (it : Int) → 1 ≤ c.length → (c.length : Int) + n ≤ 4 → 2 ≤ (c.length : Int) + n →
    (∀ i, i < c.length → 200 - 60 * (i : Int) ≤ rd c i default ∧ rd c i default ≤ 900) → (∀ i, 0 < i → i < c.length → rd c i default < rd c (i - 1) default) →
    Okk (Codes_Door.j0 K it (n, a, c, -1, road, (), (), (), l)) fun r => DoorDrawn road r.1 ∧ CO l r.2.at_
  | 0, n, a, c, h, h0, hn, hc, hl, hl2, hp, hm => by omega
  | it + 1, n, a, c, h, h0, hn, hc, hl, hl2, hp, hm => by
    rw [Codes_Door.j0]
    refine .seld (fun hq => ?_) (fun hq => ?_)
    · have e1 : w64 ((c.length : Int) - 1) = (c.length : Int) - 1 := w64_small (by omega) (by omega)
      have e2 : ((c.length : Int) - 1).toNat = c.length - 1 := by omega
      rw [e1, e2]
      simp (disch := omega) only [sel_dt]
      refine (range_o h (by omega) (by omega) (by omega)).bind fun r3 ⟨a3, b3, h⟩ => ?_
      have hp1 := hp (c.length - 1) (by omega)
      generalize hg : rd c (c.length - 1) default = q at *
      have ec : ((c.length - 1 : Nat) : Int) = (c.length : Int) - 1 := by omega
      rw [ec] at hp1
      rw [w64_small (n := q - r3.1) (by omega) (by omega), w64_small (n := n - 1) (by omega) (by omega)]
      rw [sel_dt (by simp; omega)]
      have em : mx 0 (q - r3.1) = q - r3.1 := by unfold mx; split <;> omega
      rw [em]
      refine door_loop_o it (n - 1) _ _ h (by omega) (by omega) (by simp) (by simp; omega) (by simp; omega) (fun i hi => ?_) (fun i h1 hi => ?_)
      · by_cases h1 : i < c.length
        · rw [rd_snoc_lt h1]; exact hp i h1
        · have : i = c.length := by simp at hi; omega
          subst this
          rw [rd_snoc_eq]
          omega
      · by_cases h2 : i < c.length
        · rw [rd_snoc_lt h2, rd_snoc_lt (by omega)]; exact hm i h1 h2
        · have : i = c.length := by simp at hi; omega
          subst this
          rw [rd_snoc_eq, rd_snoc_lt (by omega), hg]
          omega
    · exact .some ⟨⟨rfl, rfl, by show 2 ≤ c.length; omega, by show c.length ≤ 4; omega, hp, hm⟩, h⟩
theorem door_o {l : List Int} {a : Int} (h : CO l a) (road : Int) : Okk (Codes_Door ⟨l, a⟩ road) fun r => DoorDrawn road r.1 ∧ CO l r.2.at_ := by
  have hK := K_1000
  unfold Codes_Door Codes_Door.f
  refine (range_o h (by omega) (by omega) (by omega)).bind fun r0 ⟨a0, b0, h⟩ => ?_
  refine (range_o h (by omega) (by omega) (by omega)).bind fun r1 ⟨a1, b1, h⟩ => ?_
  refine door_loop_o K r1.1 _ _ h (by omega) (by omega) (by simp) (by simp; omega) (by simp; omega) (fun i hi => ?_) (fun i h1 hi => ?_)
  · have : i = 0 := by simp at hi; omega
    subst this
    exact ⟨by show _ ≤ r0.1; omega, b0⟩
  · simp at hi; omega
/-- fans and doors as they are drawn, with their states -/
structure EquipOk (n : Nat) (fs : List T.Fan) (ds : List T.Door) (sf sd : List Int) : Prop where
  fl : fs.length ≤ 2
  dl : ds.length ≤ 2
  sfl : sf.length = fs.length
  sdl : sd.length = ds.length
  f : ∀ i, i < fs.length → 0 ≤ (rd fs i default).Road ∧ (rd fs i default).Road < (n : Int) ∧ CurveDrawn (rd fs i default).Curve
  d : ∀ i, i < ds.length → 0 ≤ (rd ds i default).Road ∧ (rd ds i default).Road < (n : Int) ∧ DoorDrawn (rd ds i default).Road (rd ds i default)
  sf : ∀ i, i < sf.length → 0 ≤ rd sf i default ∧ rd sf i default ≤ 2
  sd : ∀ i, i < sd.length → 0 ≤ rd sd i default ∧ rd sd i default < ((rd ds i default).Rests.length : Int)
theorem equip_loop1 {l : List Int} {rs : List T.Road} {ps : List T.Place} (hr : rs.length ≤ 1000) : ∀ (it : Nat) (n a : Int) (fs : List T.Fan) (ds : List T.Door) (sf sd : List Int), CO l a → 0 ≤ n → n < (it : Int) → (ds.length : Int) + n ≤ 2 → EquipOk rs.length fs ds sf sd →
    Okk (Codes_equipped.j1 K it (n, a, (rs.length : Int), (), sd, sf, (), (), l, (), ds, fs, rs, ps)) fun r => r.2.2.Mine = { Places := ps, Roads := rs } ∧ EquipOk rs.length r.2.2.Fans r.2.2.Doors r.1.Fans r.1.Doors ∧ CO l r.2.1.at_
  | 0, n, a, fs, ds, sf, sd, h, h0, hn, hd, hE => by omega
  | it + 1, n, a, fs, ds, sf, sd, h, h0, hn, hd, hE => by
    have fin : Okk (Codes_equipped.j2 K (a, (), sd, sf, (), (), (), ds, fs, rs, ps)) fun r => r.2.2.Mine = { Places := ps, Roads := rs } ∧ EquipOk rs.length r.2.2.Fans r.2.2.Doors r.1.Fans r.1.Doors ∧ CO l r.2.1.at_ := .some ⟨rfl, hE, h⟩
    rw [Codes_equipped.j1]
    refine .seld (fun hq => .seld (fun hq2 => ?_) (fun _ => fin)) (fun _ => fin)
    refine (next_o h (by omega)).bind fun r2 ⟨a2, b2, h⟩ => ?_
    refine (door_o h r2.1).bind fun r3 ⟨hD, h⟩ => ?_
    rw [sel_dt (by simp; omega)]
    have c0 := hD.c0
    have c1 := hD.c1
    refine (next_o h (by omega)).bind fun r5 ⟨a5, b5, h⟩ => ?_
    have e1 := hE.sdl
    rw [sel_dt (by simp; omega), w64_small (by omega) (by omega)]
    refine equip_loop1 hr it (n - 1) _ _ _ _ _ h (by omega) (by omega) (by simp; omega) ⟨hE.fl, by simp; omega, hE.sfl, by simp [e1], hE.f, all_snoc (P := fun d => 0 ≤ d.Road ∧ d.Road < (rs.length : Int) ∧ DoorDrawn d.Road d) hE.d ?_, hE.sf, fun i hi => ?_⟩
    · rw [hD.r]; exact ⟨a2, b2, hD⟩
    · by_cases h1 : i < sd.length
      · rw [rd_snoc_lt h1, rd_snoc_lt (by omega)]; exact hE.sd i h1
      · have : i = sd.length := by simp at hi; omega
        subst this
        have e3 : rd (ds ++ [r3.1]) sd.length default = r3.1 := by rw [e1]; exact rd_snoc_eq
        rw [rd_snoc_eq, e3]; exact ⟨a5, b5⟩
theorem equip_loop0 {l : List Int} {rs : List T.Road} {ps : List T.Place} (hr : rs.length ≤ 1000) : ∀ (it : Nat) (n a : Int) (fs : List T.Fan) (sf : List Int), CO l a → 0 ≤ n → n < (it : Int) → (fs.length : Int) + n ≤ 2 → EquipOk rs.length fs [] sf [] →
    Okk (Codes_equipped.j0 K it (n, a, (rs.length : Int), (), [], sf, (), (), l, (), [], fs, rs, ps)) fun r => r.2.2.Mine = { Places := ps, Roads := rs } ∧ EquipOk rs.length r.2.2.Fans r.2.2.Doors r.1.Fans r.1.Doors ∧ CO l r.2.1.at_
  | 0, n, a, fs, sf, h, h0, hn, hd, hE => by omega
  | it + 1, n, a, fs, sf, h, h0, hn, hd, hE => by
    have hK := K_1000
    have fin : Okk (Codes_equipped.j3 K (a, (rs.length : Int), (), [], sf, (), (), l, (), [], fs, rs, ps)) fun r => r.2.2.Mine = { Places := ps, Roads := rs } ∧ EquipOk rs.length r.2.2.Fans r.2.2.Doors r.1.Fans r.1.Doors ∧ CO l r.2.1.at_ := by
      unfold Codes_equipped.j3
      refine (next_o h (by omega)).bind fun r2 ⟨a2, b2, h⟩ => ?_
      exact equip_loop1 hr K r2.1 _ _ _ _ _ h a2 (by omega) (by simp; omega) hE
    rw [Codes_equipped.j0]
    refine .seld (fun hq => .seld (fun hq2 => ?_) (fun _ => fin)) (fun _ => fin)
    refine (next_o h (by omega)).bind fun r2 ⟨a2, b2, h⟩ => ?_
    refine (one_o h (by omega)).bind fun r3 h => ?_
    refine (one_o h (by omega)).bind fun r4 h => ?_
    refine (curve_o h).bind fun r5 ⟨hC, h⟩ => ?_
    rw [sel_dt (by simp; omega)]
    refine (next_o h (by omega)).bind fun r7 ⟨a7, b7, h⟩ => ?_
    have e1 := hE.sfl
    rw [sel_dt (by simp; omega), w64_small (by omega) (by omega)]
    refine equip_loop0 hr it (n - 1) _ _ _ h (by omega) (by omega) (by simp; omega) ⟨by simp; omega, hE.dl, by simp [e1], rfl, all_snoc (P := fun (f : T.Fan) => 0 ≤ f.Road ∧ f.Road < (rs.length : Int) ∧ CurveDrawn f.Curve) hE.f ⟨a2, b2, hC⟩, hE.d, all_snoc (P := fun z => 0 ≤ z ∧ z ≤ 2) hE.sf ⟨a7, by omega⟩, hE.sd⟩
theorem equip_o {l : List Int} {a : Int} (h : CO l a) {x : T.Air} (hr : x.Mine.Roads.length ≤ 1000) (hf : x.Fans = []) (hd : x.Doors = []) :
    Okk (Codes_equipped ⟨l, a⟩ x) fun r => r.2.2.Mine = x.Mine ∧ EquipOk x.Mine.Roads.length r.2.2.Fans r.2.2.Doors r.1.Fans r.1.Doors ∧ CO l r.2.1.at_ := by
  have hK := K_1000
  unfold Codes_equipped Codes_equipped.f
  refine (next_o h (by omega)).bind fun r0 ⟨a0, b0, h⟩ => ?_
  rw [hf, hd]
  exact equip_loop0 hr K r0.1 _ _ _ h a0 (by omega) (by simp; omega) ⟨by simp, by simp, rfl, rfl, fun i hi => by simp at hi, fun i hi => by simp at hi, fun i hi => by simp at hi, fun i hi => by simp at hi⟩
end Go.Proofs.Ytlhknehkcflkgaa

/- The reference's fan curve: what it answers lies between 0 and the greatest pressure. -/
namespace Go.Proofs.Ytlhknehkcflkgaa
open Go Ab
theorem floor_eq {a b : Int} (hb : 0 < b) : (if Int.tmod a b < 0 then Int.tdiv a b - 1 else Int.tdiv a b) = a / b := by
  have h1 := Int.mul_tdiv_add_tmod a b
  have h2 := Int.tmod_lt_of_pos a hb
  have h3 := Int.lt_tmod_of_pos a hb
  split
  · rename_i h
    refine (((Int.ediv_emod_unique hb (r := Int.tmod a b + b)).2 ⟨?_, by omega, by omega⟩).1).symm
    rw [Int.mul_sub, Int.mul_one]; omega
  · rename_i h
    exact (((Int.ediv_emod_unique hb (r := Int.tmod a b)).2 ⟨by omega, by omega, by omega⟩).1).symm
theorem ediv_abs {a b : Int} (hb : 0 < b) (h0 : -4700000000000000000 ≤ a) (h1 : a ≤ 4700000000000000000) : -4700000000000000000 ≤ a / b ∧ a / b ≤ 4700000000000000000 := by
  constructor
  · rw [Int.le_ediv_iff_mul_le hb]
    have : (-4700000000000000000 : Int) * b ≤ -4700000000000000000 * 1 := Int.mul_le_mul_of_nonpos_left (by omega) (by omega)
    omega
  · by_cases h : 0 ≤ a
    · have := Int.ediv_le_self b h; omega
    · have : a / b ≤ 0 := by
        have := Int.ediv_neg_of_neg_of_pos (by omega : a < 0) hb
        omega
      omega
theorem rfloor_eq {a b : Int} (hb : 0 < b) (h0 : -4700000000000000000 ≤ a) (h1 : a ≤ 4700000000000000000) : ref05_Floor a b = some (a / b) := by
  have hf := floor_eq (a := a) hb
  have ha := ediv_abs hb h0 h1
  unfold ref05_Floor ref05_Floor.f ref05_Floor.j0
  rw [sel_net (by omega), sel_net (by omega)]
  split at hf
  · rename_i h
    rw [sel_dt h, w64_small (n := Int.tdiv a b) (by omega) (by omega), w64_small (by omega) (by omega), hf]
  · rename_i h
    rw [sel_df h, w64_small (by omega) (by omega), hf]
theorem rceil_eq {a b : Int} (hb : 0 < b) (h0 : -4700000000000000000 ≤ a) (h1 : a ≤ 4700000000000000000) : ref05_Ceil a b = some (-((-a) / b)) := by
  have ha := ediv_abs (a := -a) hb (by omega) (by omega)
  unfold ref05_Ceil ref05_Ceil.f
  rw [w64_small (n := 0 - a) (by omega) (by omega), show 0 - a = -a by omega, rfloor_eq hb (by omega) (by omega), obind_some, w64_small (by omega) (by omega)]
  congr 1; omega
/-- a curve whose pressures go up to M -/
structure CurveOk (M : Int) (c : List T.Point) : Prop where
  c0 : 1 ≤ c.length
  c1 : c.length ≤ 8
  p : ∀ i, i < c.length → -1048576 ≤ (rd c i default).Flow ∧ (rd c i default).Flow ≤ 1048576 ∧ 0 ≤ (rd c i default).Pressure ∧ (rd c i default).Pressure ≤ M
  m : ∀ i, 0 < i → i < c.length → (rd c (i - 1) default).Flow < (rd c i default).Flow ∧ (rd c i default).Pressure ≤ (rd c (i - 1) default).Pressure
theorem mul_le_0 {x y : Int} (hx : x ≤ 0) (hy : 0 ≤ y) : x * y ≤ 0 := Int.mul_nonpos_of_nonpos_of_nonneg hx hy
theorem rinner_loop {M : Int} {c : List T.Point} (h : CurveOk M c) (hM : M ≤ 2199023255552) {q : Int} (hq0 : (rd c 0 default).Flow < q) (hq1 : q < (rd c (c.length - 1) default).Flow) : ∀ (d i it : Nat), i + d + 1 = c.length → d < it → (rd c i default).Flow ≤ q →
    Okk (ref07_Inner.j0 K it ((i : Int), (), (), c, q)) fun s => 0 ≤ s.Low ∧ s.Low ≤ s.High ∧ s.High ≤ M
  | 0, i, it + 1, hi, hit, hf => by
    have : i = c.length - 1 := by omega
    subst this
    omega
  | d + 1, i, it + 1, hi, hit, hf => by
    have c1 := h.c1
    have e1 : w64 ((i : Int) + 1) = (i : Int) + 1 := w64_small (by omega) (by omega)
    have e2 : ((i : Int) + 1).toNat = i + 1 := by omega
    rw [ref07_Inner.j0, e1, e2]
    simp (disch := omega) only [sel_dt]
    refine .seld (fun hp => ?_) (fun hp => ?_)
    · have ih := rinner_loop h hM hq0 hq1 d (i + 1) it (by omega) (by omega) hp
      push_cast at ih
      exact ih
    · have p1 := h.p i (by omega)
      have p2 := h.p (i + 1) (by omega)
      have mm := h.m (i + 1) (by omega) (by omega)
      rw [Nat.add_sub_cancel] at mm
      unfold ref07_Inner.j1
      dsimp only
      rw [e1, e2, Int.toNat_natCast]
      generalize rd c i default = x at *
      generalize rd c (i + 1) default = y at *
      simp (disch := omega) only [sel_dt]
      rw [w64_small (n := y.Pressure - x.Pressure) (by omega) (by omega), w64_small (n := q - x.Flow) (by omega) (by omega), w64_small (n := y.Flow - x.Flow) (by omega) (by omega)]
      have n1 : (y.Pressure - x.Pressure) * (q - x.Flow) ≤ 0 := mul_le_0 (by omega) (by omega)
      have n2 : (y.Pressure - x.Pressure) * (y.Flow - x.Flow) ≤ (y.Pressure - x.Pressure) * (q - x.Flow) := Int.mul_le_mul_of_nonpos_left (by omega) (by omega)
      have n3 : (-2199023255552 : Int) * (y.Flow - x.Flow) ≤ (y.Pressure - x.Pressure) * (y.Flow - x.Flow) := Int.mul_le_mul_of_nonneg_right (by omega) (by omega)
      have n4 : (-2199023255552 : Int) * 2097152 ≤ -2199023255552 * (y.Flow - x.Flow) := Int.mul_le_mul_of_nonpos_left (by omega) (by omega)
      generalize hup : (y.Pressure - x.Pressure) * (q - x.Flow) = up at *
      have hw : 0 < y.Flow - x.Flow := by omega
      have hup2 : -4700000000000000000 ≤ up := by omega
      rw [w64_small (n := up) (by omega) (by omega), rfloor_eq hw hup2 (by omega), obind_some, rceil_eq hw hup2 (by omega), obind_some]
      have f1 : y.Pressure - x.Pressure ≤ up / (y.Flow - x.Flow) := by rw [Int.le_ediv_iff_mul_le hw]; omega
      have f2 : up / (y.Flow - x.Flow) ≤ 0 := by
        have := Int.ediv_le_ediv hw n1
        simpa using this
      have g1 : 0 ≤ (-up) / (y.Flow - x.Flow) := Int.ediv_nonneg (by omega) (by omega)
      have g2 : (-up) / (y.Flow - x.Flow) ≤ -(y.Pressure - x.Pressure) := by
        have : (-up) / (y.Flow - x.Flow) < -(y.Pressure - x.Pressure) + 1 := by
          rw [Int.ediv_lt_iff_lt_mul hw, Int.add_mul, Int.neg_mul]; omega
        omega
      have g3 : up / (y.Flow - x.Flow) + (-up) / (y.Flow - x.Flow) ≤ 0 := by
        have a1 := Int.mul_ediv_add_emod up (y.Flow - x.Flow)
        have a2 := Int.emod_nonneg up (show y.Flow - x.Flow ≠ 0 by omega)
        have a3 := Int.mul_ediv_add_emod (-up) (y.Flow - x.Flow)
        have a4 := Int.emod_nonneg (-up) (show y.Flow - x.Flow ≠ 0 by omega)
        by_cases hc : up / (y.Flow - x.Flow) + (-up) / (y.Flow - x.Flow) ≤ 0
        · exact hc
        · exfalso
          have : (y.Flow - x.Flow) * 1 ≤ (y.Flow - x.Flow) * (up / (y.Flow - x.Flow) + (-up) / (y.Flow - x.Flow)) := Int.mul_le_mul_of_nonneg_left (by omega) (by omega)
          rw [Int.mul_add] at this
          omega
      rw [w64_small (by omega) (by omega), w64_small (by omega) (by omega)]
      exact .some ⟨by dsimp only; omega, by dsimp only; omega, by dsimp only; omega⟩
theorem rinner_o {M : Int} {f : T.Fan} (h : CurveOk M f.Curve) (hM : M ≤ 2199023255552) (q : Int) : Okk (ref07_Inner f q) fun s => 0 ≤ s.Low ∧ s.Low ≤ s.High ∧ s.High ≤ M := by
  have hK := K_1000
  have c0 := h.c0
  have c1 := h.c1
  have e1 : w64 ((f.Curve.length : Int) - 1) = (f.Curve.length : Int) - 1 := w64_small (by omega) (by omega)
  have e2 : ((f.Curve.length : Int) - 1).toNat = f.Curve.length - 1 := by omega
  unfold ref07_Inner ref07_Inner.f
  rw [e1, e2, show Int.toNat 0 = 0 from rfl]
  simp (disch := omega) only [sel_dt]
  refine .seld (fun hp => ?_) (fun hp => .seld (fun hp2 => ?_) (fun hp2 => ?_))
  · have := h.p 0 (by omega)
    exact .some ⟨this.2.2.1, Int.le_refl _, this.2.2.2⟩
  · have := h.p (f.Curve.length - 1) (by omega)
    exact .some ⟨this.2.2.1, Int.le_refl _, this.2.2.2⟩
  · exact rinner_loop h hM (q := q) (by omega) (by omega) (f.Curve.length - 1) 0 K (by omega) (by omega) (by omega)
theorem ralong_o {M : Int} {f : T.Fan} (h : CurveOk M f.Curve) (hM : M ≤ 2199023255552) (b : Bool) (q : Int) : Okk (ref07_Along f b q) fun s => -M ≤ s.Low ∧ s.Low ≤ s.High ∧ s.High ≤ M := by
  unfold ref07_Along ref07_Along.f
  have hM0 : 0 ≤ M := by have := h.p 0 (by have := h.c0; omega); omega
  refine .sel (fun _ => ?_) (fun _ => ?_)
  · refine (rinner_o h hM _).bind fun s hs => ?_
    rw [w64_small (by omega) (by omega), w64_small (by omega) (by omega)]
    exact .some ⟨by dsimp only; omega, by dsimp only; omega, by dsimp only; omega⟩
  · refine (rinner_o h hM _).bind fun s hs => .some ⟨by omega, hs.2.1, hs.2.2⟩
theorem rstate_o {M : Int} {f : T.Fan} (h : CurveOk M f.Curve) (hM : M ≤ 2199023255552) (st q : Int) : Okk (ref07_State f st q) fun s => -M ≤ s.Low ∧ s.Low ≤ s.High ∧ s.High ≤ M := by
  unfold ref07_State ref07_State.f
  have hM0 : 0 ≤ M := by have := h.p 0 (by have := h.c0; omega); omega
  refine .sel (fun _ => .some ⟨by dsimp only; omega, by dsimp only; omega, by dsimp only; omega⟩) (fun _ => .sel (fun _ => ?_) (fun _ => .sel (fun _ => ?_) (fun _ => ?_)))
  · exact (ralong_o h hM _ _).bind fun s hs => .some hs
  · exact (ralong_o h hM _ _).bind fun s hs => .some hs
  · refine (ralong_o h hM _ _).bind fun s hs => (ralong_o h hM _ _).bind fun t ht => .some ?_
    unfold mn mx
    refine ⟨?_, ?_, ?_⟩ <;> dsimp only <;> repeat' split
    all_goals omega
theorem curve_drawn {c : List T.Point} (h : CurveDrawn c) : CurveOk 3000 c :=
  ⟨h.c0, by have := h.c1; omega, fun i hi => by have := h.p i hi; have := h.c1; omega, h.m⟩
/-! doors -/
theorem rrest_loop {c : List Int} {lo0 hi0 : Int} (h : ∀ i, i < c.length → lo0 ≤ rd c i default ∧ rd c i default ≤ hi0) (hl : c.length ≤ 1000) : ∀ (d i it : Nat) (x y : Int), i + d = c.length → d < it → lo0 ≤ y → y ≤ x → x ≤ hi0 →
    Okk (ref08_Rest.j0 K it ((i : Int), x, y, (), (), (), c)) fun s => lo0 ≤ s.Low ∧ s.Low ≤ s.High ∧ s.High ≤ hi0
  | 0, i, it + 1, x, y, hi, hit, h1, h2, h3 => by
    rw [ref08_Rest.j0, sel_df (by omega)]
    exact .some ⟨h1, h2, h3⟩
  | d + 1, i, it + 1, x, y, hi, hit, h1, h2, h3 => by
    have g := h i (by omega)
    have e1 : y ≤ x := h2
    have m1 : mx x (rd c i default) ≤ hi0 ∧ x ≤ mx x (rd c i default) := by unfold mx; split <;> omega
    have m2 : lo0 ≤ mn y (rd c i default) ∧ mn y (rd c i default) ≤ y := by unfold mn; split <;> omega
    have ih := rrest_loop h hl d (i + 1) it (mx x (rd c i default)) (mn y (rd c i default)) (by omega) (by omega) m2.1 (by omega) m1.1
    push_cast at ih
    rw [ref08_Rest.j0, Int.toNat_natCast]
    simp (disch := omega) only [sel_dt, w64_small]
    exact ih
theorem rrest_o {d : T.Door} {lo0 hi0 : Int} (h : ∀ i, i < d.Rests.length → lo0 ≤ rd d.Rests i default ∧ rd d.Rests i default ≤ hi0) (h0 : lo0 ≤ 0) (h1 : 0 ≤ hi0) (hl : d.Rests.length ≤ 1000) (st : Int) : Okk (ref08_Rest d st) fun s => lo0 ≤ s.Low ∧ s.Low ≤ s.High ∧ s.High ≤ hi0 := by
  have hK := K_1000
  unfold ref08_Rest ref08_Rest.f
  refine .sel (fun _ => .some ⟨h0, Int.le_refl _, h1⟩) (fun hn => .seld (fun _ => .some ⟨h0, Int.le_refl _, h1⟩) (fun _ => .seld (fun _ => .some ⟨h0, Int.le_refl _, h1⟩) (fun _ => .seld (fun _ => ?_) (fun _ => ?_))))
  · simp (disch := omega) only [sel_dt]
    have := h st.toNat (by omega)
    exact .some ⟨this.1, Int.le_refl _, this.2⟩
  · have hn : (d.Rests.length : Int) ≠ 0 := by simpa using hn
    rw [sel_dt (by omega), sel_dt (by omega), show Int.toNat 0 = 0 from rfl]
    have := h 0 (by omega)
    exact rrest_loop h hl d.Rests.length 0 K _ _ (by omega) (by omega) this.1 (Int.le_refl _) this.2
end Go.Proofs.Ytlhknehkcflkgaa

/- The air that is made of choices is right. -/
namespace Go.Proofs.Ytlhknehkcflkgaa
open Go Ab
/-- a road of a made mine, before its lift is set -/
structure RoadPre (n : Nat) (r : T.Road) : Prop where
  f0 : 0 ≤ r.From
  f1 : r.From < (n : Int)
  t0 : 0 ≤ r.To
  t1 : r.To < (n : Int)
  ne : r.From ≠ r.To
  l0 : 1 ≤ r.Length
  l1 : r.Length ≤ 400
  a0 : 4 ≤ r.Area
  a1 : r.Area ≤ 30
  r0 : 1 ≤ r.Rest.Low
  r1 : r.Rest.Low ≤ r.Rest.High
  r2 : r.Rest.High ≤ 22
  v0 : -1000000000 ≤ r.Lift.Low
  v1 : r.Lift.Low ≤ r.Lift.High
  v2 : r.Lift.High ≤ 1000000000
theorem RoadPre.ok {n : Nat} {r : T.Road} (h : RoadPre n r) : RoadOk n r := by
  obtain ⟨f0, f1, t0, t1, ne, l0, l1, a0, a1, r0, r1, r2, v0, v1, v2⟩ := h
  exact ⟨f0, f1, t0, t1, ne, l0, by omega, by omega, by omega, r0, r1, by omega, by omega, v1, by omega⟩
structure FitIn (np : Nat) (rs : List T.Road) (xf xp : List Int) (fs : List T.Fan) (ds : List T.Door) (sf sd : List Int) : Prop where
  eq : EquipOk rs.length fs ds sf sd
  r : ∀ i, i < rs.length → RoadPre np (rd rs i default)
  rl : rs.length ≤ 100
  xl : xf.length = rs.length
  pl : xp.length = np
  x : ∀ i, i < xf.length → -600 ≤ rd xf i default ∧ rd xf i default ≤ 600
  p : ∀ i, i < xp.length → -4000 ≤ rd xp i default ∧ rd xp i default ≤ 4000
section
variable {l : List Int} {xf xp : List Int} {fs : List T.Fan} {ds : List T.Door} {sf sd : List Int}
theorem fit_loop3 {Q : T.draw_Codes × T.Air → Prop} (hfl : fs.length ≤ 2) (hsl : sf.length = fs.length) (hc : ∀ i, i < fs.length → CurveOk 3000 (rd fs i default).Curve) (g0 : _) (q : Int) (hq : -600 ≤ q ∧ q ≤ 600) (i : Int) (rs : List T.Road) (r : Nat) (a : Int)
    (H : ∀ lift, -800000000 ≤ lift → lift ≤ 800000000 → Okk (Codes_fit.j5 K g0 (lift, a, i, (), xf, xp, (), sd, sf, (), l, (), ds, fs, rs, r)) Q) :
    ∀ (d k it : Nat) (lift : Int), k + d = fs.length → d < it → -700000000 - 3000 * (k : Int) ≤ lift → lift ≤ 700000000 + 3000 * (k : Int) → Okk (Codes_fit.j3 K g0 it ((k : Int), lift, a, q, i, (), xf, xp, (), sd, sf, (), l, (), ds, fs, rs, r)) Q
  | 0, k, it + 1, lift, hk, hit, h0, h1 => by
    rw [Codes_fit.j3, sel_df (by omega)]
    exact H lift (by omega) (by omega)
  | d + 1, k, it + 1, lift, hk, hit, h0, h1 => by
    have step : ∀ lift, -700000000 - 3000 * ((k : Int) + 1) ≤ lift → lift ≤ 700000000 + 3000 * ((k : Int) + 1) → Okk (Codes_fit.j4 K g0 (Codes_fit.j3 K g0 it) (lift, (k : Int), a, q, i, (), xf, xp, (), sd, sf, (), l, (), ds, fs, rs, r)) Q := by
      intro lift h0 h1
      have ih := fit_loop3 hfl hsl hc g0 q hq i rs r a H d (k + 1) it lift (by omega) (by omega) (by push_cast; omega) (by push_cast; omega)
      push_cast at ih
      unfold Codes_fit.j4
      dsimp only
      rw [w64_small (by omega) (by omega)]
      exact ih
    rw [Codes_fit.j3, Int.toNat_natCast]
    simp (disch := omega) only [sel_dt]
    refine .sel (fun _ => ?_) (fun _ => step lift (by omega) (by omega))
    refine (rstate_o (hc k (by omega)) (by omega) _ _).bind fun s hs => ?_
    rw [w64_small (by omega) (by omega)]
    exact step _ (by omega) (by omega)
theorem fit_loop1 {Q : T.draw_Codes × T.Air → Prop} (hdl : ds.length ≤ 2) (hsl : sd.length = ds.length) (hc : ∀ i, i < ds.length → DoorDrawn (rd ds i default).Road (rd ds i default)) (g0 : _) (q : Int) (i : Int) (rs : List T.Road) (r : Nat) (a : Int)
    (H : ∀ rest, 0 ≤ rest → rest ≤ 1900 → Okk (Codes_fit.j6 K g0 (rest, a, q, i, (), xf, xp, (), sd, sf, (), l, (), ds, fs, rs, r)) Q) :
    ∀ (d k it : Nat) (rest : Int), k + d = ds.length → d < it → 0 ≤ rest → rest ≤ 30 + 900 * (k : Int) → Okk (Codes_fit.j1 K g0 it ((k : Int), rest, a, q, i, (), xf, xp, (), sd, sf, (), l, (), ds, fs, rs, r)) Q
  | 0, k, it + 1, rest, hk, hit, h0, h1 => by
    rw [Codes_fit.j1, sel_df (by omega)]
    exact H rest (by omega) (by omega)
  | d + 1, k, it + 1, rest, hk, hit, h0, h1 => by
    have step : ∀ rest, 0 ≤ rest → rest ≤ 30 + 900 * ((k : Int) + 1) → Okk (Codes_fit.j2 K g0 (Codes_fit.j1 K g0 it) (rest, (k : Int), a, q, i, (), xf, xp, (), sd, sf, (), l, (), ds, fs, rs, r)) Q := by
      intro rest h0 h1
      have ih := fit_loop1 hdl hsl hc g0 q i rs r a H d (k + 1) it rest (by omega) (by omega) (by omega) (by push_cast; omega)
      push_cast at ih
      unfold Codes_fit.j2
      dsimp only
      rw [w64_small (by omega) (by omega)]
      exact ih
    rw [Codes_fit.j1, Int.toNat_natCast]
    simp (disch := omega) only [sel_dt]
    refine .sel (fun _ => ?_) (fun _ => step rest (by omega) (by omega))
    have hd := hc k (by omega)
    have c1 := hd.c1
    refine (rrest_o (d := rd ds k default) (lo0 := 0) (hi0 := 900) (fun j hj => by have := hd.p j hj; omega) (by omega) (by omega) (by omega) _).bind fun s hs => ?_
    rw [w64_small (by omega) (by omega)]
    exact step _ (by omega) (by omega)
theorem fit_loop {np : Nat} (hnp : np ≤ 1000) : ∀ (d i it : Nat) (rs : List T.Road) (a : Int), i + d = rs.length → d < it → CO l a → FitIn np rs xf xp fs ds sf sd →
    Okk (Codes_fit.j0 K it ((i : Int), (), xf, xp, (), sd, sf, (), a, l, (), ds, fs, rs)) fun r => CO l r.1.at_ ∧ r.2.Mine.Roads.length = rs.length ∧ ∀ i, i < rs.length → RoadPre np (rd r.2.Mine.Roads i default)
  | 0, i, it + 1, rs, a, hi, hit, h, hF => by
    rw [Codes_fit.j0, sel_df (by omega)]
    exact .some ⟨h, rfl, hF.r⟩
  | d + 1, i, it + 1, rs, a, hi, hit, h, hF => by
    have hK := K_1000
    have rl := hF.rl
    have xl := hF.xl
    have hr := hF.r i (by omega)
    have hx := hF.x i (by omega)
    have hr' := hr
    obtain ⟨f0, f1, t0, t1, ne, l0, l1, a0, a1, r0, r1, r2, v0, v1, v2⟩ := hr'
    rw [Codes_fit.j0, Int.toNat_natCast]
    simp (disch := omega) only [sel_dt]
    rw [w64_small (n := (rd rs i default).Rest.High - (rd rs i default).Rest.Low) (by omega) (by omega), w64_small (by omega) (by omega)]
    refine (next_o h (by omega)).bind fun r5 ⟨a5, b5, h⟩ => ?_
    rw [w64_small (by omega) (by omega)]
    refine fit_loop1 hF.eq.dl hF.eq.sdl (fun j hj => (hF.eq.d j hj).2.2) _ _ _ _ _ _ (fun rest g0 g1 => ?_) ds.length 0 K _ (by omega) (by have := hF.eq.dl; omega) (by omega) (by push_cast; omega)
    unfold Codes_fit.j6
    dsimp only
    have hpl := hF.pl
    have hp1 := hF.p (rd rs i default).From.toNat (by omega)
    have hp2 := hF.p (rd rs i default).To.toNat (by omega)
    simp (disch := omega) only [sel_dt]
    generalize hq : rd xf i default = q at *
    generalize rd xp (rd rs i default).From.toNat default = p1 at *
    generalize rd xp (rd rs i default).To.toNat default = p2 at *
    have hm : 0 ≤ mx q (w64 (0 - q)) ∧ mx q (w64 (0 - q)) ≤ 600 := by rw [w64_small (by omega) (by omega)]; unfold mx; split <;> omega
    generalize mx q (w64 (0 - q)) = m at *
    have n1 : 0 ≤ rest * m := Int.mul_nonneg g0 hm.1
    have n2 : rest * m ≤ 1900 * 600 := Int.mul_le_mul g1 hm.2 hm.1 (by omega)
    generalize hrm : rest * m = rm at *
    have n3 : rm * q ≤ rm * 600 := Int.mul_le_mul_of_nonneg_left (by omega) n1
    have n4 : rm * (-600) ≤ rm * q := Int.mul_le_mul_of_nonneg_left (by omega) n1
    generalize hrq : rm * q = rq at *
    rw [w64_small (n := rm) (by omega) (by omega), hrq, w64_small (n := rq) (by omega) (by omega), w64_small (n := p1 - p2) (by omega) (by omega), w64_small (by omega) (by omega)]
    refine fit_loop3 hF.eq.fl hF.eq.sfl (fun j hj => curve_drawn (hF.eq.f j hj).2.2) _ q (by omega) _ _ _ _ (fun lift v0' v1' => ?_) fs.length 0 K _ (by omega) (by have := hF.eq.fl; omega) (by push_cast; omega) (by push_cast; omega)
    unfold Codes_fit.j5
    refine (next_o h (by omega)).bind fun s0 ⟨c0, d0, h⟩ => ?_
    refine (next_o h (by omega)).bind fun s1 ⟨c1, d1, h⟩ => ?_
    unfold Codes_fit.j7
    dsimp only
    rw [w64_small (n := lift - s0.1) (by omega) (by omega), w64_small (n := lift + s1.1) (by omega) (by omega), w64_small (n := (i : Int) + 1) (by omega) (by omega)]
    have ih := fit_loop hnp d (i + 1) it (rs.set i { From := (rd rs i default).From, To := (rd rs i default).To, Length := (rd rs i default).Length, Area := (rd rs i default).Area, Walk := (rd rs i default).Walk, Closed := (rd rs i default).Closed, Rest := (rd rs i default).Rest, Lift := { Low := lift - s0.1, High := lift + s1.1 } }) s1.2.at_ (by simp; omega) (by omega) h
      ⟨by rw [List.length_set]; exact hF.eq, all_set hF.r ⟨f0, f1, t0, t1, ne, l0, l1, a0, a1, r0, r1, r2, by dsimp only; omega, by dsimp only; omega, by dsimp only; omega⟩, by simp; omega, by simp; omega, hF.pl, hF.x, hF.p⟩
    push_cast at ih
    simp only [List.length_set] at ih
    exact ih
end
theorem fit_o {np : Nat} (hnp : np ≤ 1000) {l : List Int} {a : Int} (h : CO l a) {x : T.Air} {s : T.Setting} {st : T.State} (hF : FitIn np x.Mine.Roads st.Flows st.Pressures x.Fans x.Doors s.Fans s.Doors) :
    Okk (Codes_fit ⟨l, a⟩ x s st) fun r => CO l r.1.at_ ∧ r.2.Mine.Roads.length = x.Mine.Roads.length ∧ ∀ i, i < x.Mine.Roads.length → RoadPre np (rd r.2.Mine.Roads i default) := by
  have hK := K_1000
  unfold Codes_fit Codes_fit.f
  exact fit_loop hnp x.Mine.Roads.length 0 K _ _ (by omega) (by have := hF.rl; omega) h hF
/-! doubts -/
theorem snoc_idx {xs : List Int} {x : Int} {P : Nat → Int → Prop} (h : ∀ j, j < xs.length → P j (rd xs j default)) (hx : P xs.length x) : ∀ j, j < (xs ++ [x]).length → P j (rd (xs ++ [x]) j default) := by
  intro j hj
  by_cases h1 : j < xs.length
  · rw [rd_snoc_lt h1]; exact h j h1
  · have : j = xs.length := by simp at hj; omega
    subst this
    rw [rd_snoc_eq]; exact hx
theorem doubts_loop3 {l of : List Int} {P : Nat → Int → Prop} (h1 : ∀ j, P j (-1)) {sd : List Int} (hP : ∀ j, j < sd.length → P j (rd sd j default)) (hl : sd.length ≤ 1000) : ∀ (d i it : Nat) (od : List Int) (a : Int), i + d = sd.length → d < it → CO l a → od.length = i → (∀ j, j < od.length → P j (rd od j default)) →
    Okk (Codes_doubts.j3 K it ((i : Int), (), od, of, (), (), sd, (), a, l)) fun r => r.1.Fans = of ∧ r.1.Doors.length = sd.length ∧ (∀ j, j < r.1.Doors.length → P j (rd r.1.Doors j default)) ∧ CO l r.2.at_
  | 0, i, it + 1, od, a, hi, hit, h, ho, hp => by
    rw [Codes_doubts.j3, sel_df (by omega)]
    exact .some ⟨rfl, by show od.length = _; omega, hp, h⟩
  | d + 1, i, it + 1, od, a, hi, hit, h, ho, hp => by
    have step : ∀ (n a : Int), CO l a → P i n → Okk (Codes_doubts.j4 K (Codes_doubts.j3 K it) (n, a, (i : Int), (), od, of, (), (), sd, (), l)) fun r => r.1.Fans = of ∧ r.1.Doors.length = sd.length ∧ (∀ j, j < r.1.Doors.length → P j (rd r.1.Doors j default)) ∧ CO l r.2.at_ := by
      intro n a h hn
      unfold Codes_doubts.j4 Codes_doubts.j5
      dsimp only
      rw [sel_dt (by simp; omega), w64_small (by omega) (by omega)]
      have := doubts_loop3 (of := of) h1 hP hl d (i + 1) it (od ++ [n]) a (by omega) (by omega) h (by simp; omega) (snoc_idx hp (by rw [ho]; exact hn))
      push_cast at this
      exact this
    rw [Codes_doubts.j3, Int.toNat_natCast]
    simp (disch := omega) only [sel_dt]
    refine (one_o h (by omega)).bind fun r h => .sel (fun _ => step _ _ h (h1 i)) (fun _ => step _ _ h (hP i (by omega)))
theorem doubts_loop0 {l : List Int} {P P' : Nat → Int → Prop} (h1 : ∀ j, P j (-1)) (h1' : ∀ j, P' j (-1)) {sf sd : List Int} (hP : ∀ j, j < sf.length → P j (rd sf j default)) (hP' : ∀ j, j < sd.length → P' j (rd sd j default)) (hl : sf.length ≤ 1000) (hl' : sd.length ≤ 1000) : ∀ (d i it : Nat) (of : List Int) (a : Int), i + d = sf.length → d < it → CO l a → of.length = i → (∀ j, j < of.length → P j (rd of j default)) →
    Okk (Codes_doubts.j0 K it ((i : Int), (), [], of, (), (), sd, sf, (), a, l)) fun r => r.1.Fans.length = sf.length ∧ r.1.Doors.length = sd.length ∧ (∀ j, j < r.1.Fans.length → P j (rd r.1.Fans j default)) ∧ (∀ j, j < r.1.Doors.length → P' j (rd r.1.Doors j default)) ∧ CO l r.2.at_
  | 0, i, it + 1, of, a, hi, hit, h, ho, hp => by
    have hK := K_1000
    rw [Codes_doubts.j0, sel_df (by omega)]
    unfold Codes_doubts.j7
    refine (doubts_loop3 (of := of) h1' hP' hl' sd.length 0 K [] a (by omega) (by omega) h rfl (fun j hj => by simp at hj)).mono fun r hr => ?_
    obtain ⟨g1, g2, g3, g4⟩ := hr
    exact ⟨by rw [g1]; omega, g2, by rw [g1]; exact hp, g3, g4⟩
  | d + 1, i, it + 1, of, a, hi, hit, h, ho, hp => by
    have step : ∀ (n a : Int), CO l a → P i n → Okk (Codes_doubts.j1 K (Codes_doubts.j0 K it) (n, a, (i : Int), (), [], of, (), (), sd, sf, (), l)) fun r => r.1.Fans.length = sf.length ∧ r.1.Doors.length = sd.length ∧ (∀ j, j < r.1.Fans.length → P j (rd r.1.Fans j default)) ∧ (∀ j, j < r.1.Doors.length → P' j (rd r.1.Doors j default)) ∧ CO l r.2.at_ := by
      intro n a h hn
      unfold Codes_doubts.j1 Codes_doubts.j2
      dsimp only
      rw [sel_dt (by simp; omega), w64_small (by omega) (by omega)]
      have := doubts_loop0 h1 h1' hP hP' hl hl' d (i + 1) it (of ++ [n]) a (by omega) (by omega) h (by simp; omega) (snoc_idx hp (by rw [ho]; exact hn))
      push_cast at this
      exact this
    rw [Codes_doubts.j0, Int.toNat_natCast]
    simp (disch := omega) only [sel_dt]
    refine (one_o h (by omega)).bind fun r h => .sel (fun _ => step _ _ h (h1 i)) (fun _ => step _ _ h (hP i (by omega)))
/-- a setting that may be, for such fans and doors -/
structure SetOk (ds : List T.Door) (nf : Nat) (s : T.Setting) : Prop where
  fl : s.Fans.length = nf
  dl : s.Doors.length = ds.length
  f : ∀ i, i < s.Fans.length → -1 ≤ rd s.Fans i default ∧ rd s.Fans i default ≤ 2
  d : ∀ i, i < s.Doors.length → -1 ≤ rd s.Doors i default ∧ rd s.Doors i default < ((rd ds i default).Rests.length : Int)
theorem doubts_o {l : List Int} {a : Int} (h : CO l a) (x : T.Air) {n : Nat} {fs : List T.Fan} {ds : List T.Door} {s : T.Setting} (hE : EquipOk n fs ds s.Fans s.Doors) :
    Okk (Codes_doubts ⟨l, a⟩ x s) fun r => SetOk ds fs.length r.1 ∧ CO l r.2.at_ := by
  have hK := K_1000
  have e1 := hE.fl
  have e2 := hE.sfl
  have e3 := hE.dl
  have e4 := hE.sdl
  unfold Codes_doubts Codes_doubts.f
  refine (doubts_loop0 (P := fun _ z => -1 ≤ z ∧ z ≤ 2) (P' := fun j z => -1 ≤ z ∧ z < (max ((rd ds j default).Rests.length : Int) 0)) (fun j => by omega) (fun j => by omega) (fun j hj => by have := hE.sf j hj; omega) (fun j hj => by have := hE.sd j hj; omega) (by omega) (by omega) s.Fans.length 0 K [] a (by omega) (by omega) h rfl (fun j hj => by simp at hj)).mono fun r hr => ?_
  obtain ⟨g1, g2, g3, g4, g5⟩ := hr
  exact ⟨⟨by omega, by omega, g3, fun i hi => by have := g4 i hi; omega⟩, g5⟩
/-! the air -/
structure MadeOk (a : T.Air) (s : T.Setting) (x : T.State) : Prop where
  air : AirOk a
  set : SetOk a.Doors a.Fans.length s
  pl : 1 ≤ a.Mine.Places.length
  pl2 : a.Mine.Places.length ≤ 6
  rl : a.Mine.Roads.length ≤ 9
  fl : a.Fans.length ≤ 2
  dl : a.Doors.length ≤ 2
  xl : x.Flows.length = a.Mine.Roads.length
  xp : x.Pressures.length = a.Mine.Places.length
  x : ∀ i, i < x.Flows.length → -600 ≤ rd x.Flows i default ∧ rd x.Flows i default ≤ 600
  cu : ∀ i, i < a.Fans.length → CurveDrawn (rd a.Fans i default).Curve
  do_ : ∀ i, i < a.Doors.length → DoorDrawn (rd a.Doors i default).Road (rd a.Doors i default)
  ro : ∀ i, i < a.Mine.Roads.length → RoadPre a.Mine.Places.length (rd a.Mine.Roads i default)
abbrev PlacesPre (ps : List T.Place) : Prop := ∀ i, i < ps.length → -100 ≤ (rd ps i default).Height ∧ (rd ps i default).Height ≤ 100
section
variable {l : List Int} {ps : List T.Place}
theorem made_8 (hp1 : 1 ≤ ps.length) (hp2 : ps.length ≤ 6) (hps : PlacesPre ps) {rs : List T.Road} {xf xp : List Int} {a : Int} (h : CO l a) (hr : ∀ i, i < rs.length → RoadPre ps.length (rd rs i default)) (hrl : rs.length ≤ 9) (hxl : xf.length = rs.length) (hx : ∀ i, i < xf.length → -600 ≤ rd xf i default ∧ rd xf i default ≤ 600) (hpl : xp.length = ps.length) (hp : ∀ i, i < xp.length → -4000 ≤ rd xp i default ∧ rd xp i default ≤ 4000) :
    Okk (Codes_Made.j8 K (xf, xp, (), a, ps, [], [], rs, (), (), (), (), (), l)) fun r => MadeOk r.1 r.2.1 r.2.2.1 ∧ CO l r.2.2.2.at_ := by
  unfold Codes_Made.j8
  refine (equip_o h (x := { Mine := { Places := ps, Roads := rs }, Fans := [], Doors := [] }) (by show rs.length ≤ 1000; omega) rfl rfl).bind fun r0 ⟨hm, hE, h⟩ => ?_
  have hrr : r0.2.2.Mine.Roads = rs := by rw [hm]
  have hpp : r0.2.2.Mine.Places = ps := by rw [hm]
  refine (fit_o (np := ps.length) (by omega) h (x := r0.2.2) (s := r0.1) (st := { Pressures := xp, Flows := xf }) ⟨by rw [hrr]; exact hE, by rw [hrr]; exact hr, by rw [hrr]; omega, by rw [hrr]; exact hxl, hpl, hx, hp⟩).bind fun r1 ⟨h, hl1, hr1⟩ => ?_
  refine (doubts_o h _ hE).bind fun r2 ⟨hS, h⟩ => ?_
  rw [hrr] at hl1 hr1
  refine .some ⟨⟨⟨⟨by show r0.2.2.Mine.Places.length ≤ 64; rw [hpp]; omega, by show r1.2.Mine.Roads.length ≤ 128; omega, ?_, ?_⟩, by show r0.2.2.Fans.length ≤ 8; have := hE.fl; omega, ?_, by show r0.2.2.Doors.length ≤ 16; have := hE.dl; omega, ?_⟩, hS, by show 1 ≤ r0.2.2.Mine.Places.length; rw [hpp]; exact hp1, by show r0.2.2.Mine.Places.length ≤ 6; rw [hpp]; exact hp2, by show r1.2.Mine.Roads.length ≤ 9; omega, hE.fl, hE.dl, by show xf.length = r1.2.Mine.Roads.length; omega, by show xp.length = r0.2.2.Mine.Places.length; rw [hpp]; exact hpl, hx, fun i hi => (hE.f i hi).2.2, fun i hi => (hE.d i hi).2.2, ?_⟩, h⟩
  · intro i hi
    dsimp only at hi ⊢
    rw [hpp] at hi ⊢
    have := hps i hi
    omega
  · intro i hi
    dsimp only at hi ⊢
    rw [hpp]
    exact (hr1 i (by omega)).ok
  · intro i hi
    dsimp only at hi ⊢
    obtain ⟨g1, g2, g3⟩ := hE.f i hi
    obtain ⟨c0, c1, p, m⟩ := curve_drawn g3
    exact ⟨g1, by rw [hl1]; exact g2, c0, c1, fun j hj => by have := p j hj; omega, m⟩
  · intro i hi
    dsimp only at hi ⊢
    obtain ⟨g1, g2, g3⟩ := hE.d i hi
    exact ⟨g1, by rw [hl1]; exact g2, g3.c0, by have := g3.c1; omega, fun j hj => by have := g3.p j hj; have := g3.c1; omega, g3.m, g3.o⟩
  · intro i hi
    dsimp only at hi ⊢
    rw [hpp]
    exact hr1 i (by omega)
/-- a road that leads to a shaft or from it -/
theorem made_5 {sh : Nat} (hsh : 1 ≤ sh) (hsp : sh ≤ ps.length) (hp2 : ps.length ≤ 6) (hps : PlacesPre ps) {net xp : List Int} (hnl : net.length = ps.length) (hn : ∀ i, i < net.length → -600 ≤ rd net i default ∧ rd net i default ≤ 600) (hpl : xp.length = ps.length) (hp : ∀ i, i < xp.length → -4000 ≤ rd xp i default ∧ rd xp i default ≤ 4000) :
    ∀ (d i it : Nat) (a : Int) (rs : List T.Road) (xf : List Int), sh ≤ i → i + d = ps.length → d < it → CO l a → (∀ i, i < rs.length → RoadPre ps.length (rd rs i default)) → rs.length + d ≤ 9 → xf.length = rs.length → (∀ i, i < xf.length → -600 ≤ rd xf i default ∧ rd xf i default ≤ 600) →
    Okk (Codes_Made.j5 K it ((i : Int), net, xf, xp, (), (ps.length : Int), a, (sh : Int), ps, [], [], rs, (), (), (), (), (), l)) fun r => MadeOk r.1 r.2.1 r.2.2.1 ∧ CO l r.2.2.2.at_
  | 0, i, it + 1, a, rs, xf, hs, hi, hit, h, hr, hrl, hxl, hx => by
    rw [Codes_Made.j5, sel_df (by omega)]
    exact made_8 (by omega) hp2 hps h hr (by omega) hxl hx hpl hp
  | d + 1, i, it + 1, a, rs, xf, hs, hi, hit, h, hr, hrl, hxl, hx => by
    have step : ∀ (q f t a : Int) (r : T.Road), CO l a → -600 ≤ q → q ≤ 600 → RoadPre ps.length { r with From := f, To := t } → Okk (Codes_Made.j6 K (Codes_Made.j5 K it) (q, t, f, a, r.Lift.High, r.Lift.Low, r.Rest.High, r.Rest.Low, r.Closed, r.Walk, r.Area, r.Length, (), (i : Int), net, xf, xp, (), (ps.length : Int), (sh : Int), ps, [], [], rs, (), (), (), (), (), l)) fun r => MadeOk r.1 r.2.1 r.2.2.1 ∧ CO l r.2.2.2.at_ := by
      intro q f t a r h q0 q1 hR
      unfold Codes_Made.j6 Codes_Made.j7
      dsimp only
      rw [sel_dt (by simp; omega), sel_dt (by simp; omega), w64_small (by omega) (by omega)]
      have ih := made_5 hsh hsp hp2 hps hnl hn hpl hp d (i + 1) it a (rs ++ [{ r with From := f, To := t }]) (xf ++ [q]) (by omega) (by omega) (by omega) h (all_snoc hr hR) (by simp; omega) (by simp [hxl]) (all_snoc (P := fun q => -600 ≤ q ∧ q ≤ 600) hx ⟨q0, q1⟩)
      push_cast at ih
      exact ih
    have hni := hn i (by omega)
    rw [Codes_Made.j5]
    simp (disch := omega) only [sel_dt]
    refine (next_o h (by omega)).bind fun r1 ⟨a1, b1, h⟩ => (road_o h _ _).bind fun r2 ⟨hR, h⟩ => ?_
    rw [Int.toNat_natCast]
    obtain ⟨rf, rt, l0, l1, a0, a1', r0, r1', r2', v0, v1, v2, rc⟩ := hR
    refine (one_o h (by omega)).bind fun r5 h => .sel (fun _ => ?_) (fun _ => ?_)
    · rw [w64_small (n := 0 - rd net i default) (by omega) (by omega), w64_small (by omega) (by omega)]
      refine step _ _ _ _ r2.1 h (by omega) (by omega) ⟨?_, ?_, ?_, ?_, ?_, l0, l1, a0, a1', r0, r1', r2', by dsimp only; omega, v1, by dsimp only; omega⟩ <;> dsimp only <;> (try rw [rf]) <;> (try rw [rt]) <;> omega
    · rw [w64_small (by omega) (by omega)]
      refine step _ _ _ _ r2.1 h (by omega) (by omega) ⟨?_, ?_, ?_, ?_, ?_, l0, l1, a0, a1', r0, r1', r2', by dsimp only; omega, v1, by dsimp only; omega⟩ <;> dsimp only <;> (try rw [rf]) <;> (try rw [rt]) <;> omega
theorem made_9 {sh : Nat} (hsh : 1 ≤ sh) (hsp : sh ≤ ps.length) (hp2 : ps.length ≤ 6) (hps : PlacesPre ps) {net xp : List Int} (hnl : net.length = ps.length) (hn : ∀ i, i < net.length → -600 ≤ rd net i default ∧ rd net i default ≤ 600) (hpl : xp.length = ps.length) (hp : ∀ i, i < xp.length → -4000 ≤ rd xp i default ∧ rd xp i default ≤ 4000)
    (a : Int) (rs : List T.Road) (xf : List Int) (h : CO l a) (hr : ∀ i, i < rs.length → RoadPre ps.length (rd rs i default)) (hrl : rs.length ≤ 5) (hs2 : rs.length + ps.length ≤ 9 + sh) (hxl : xf.length = rs.length) (hx : ∀ i, i < xf.length → -600 ≤ rd xf i default ∧ rd xf i default ≤ 600) :
    Okk (Codes_Made.j9 K (net, xf, xp, (), (ps.length : Int), a, (sh : Int), ps, [], [], rs, (), (), (), (), (), l)) fun r => MadeOk r.1 r.2.1 r.2.2.1 ∧ CO l r.2.2.2.at_ := by
  have hK := K_1000
  unfold Codes_Made.j9
  exact made_5 hsh hsp hp2 hps hnl hn hpl hp (ps.length - sh) sh K a rs xf (Nat.le_refl _) (by omega) (by omega) h hr (by omega) hxl hx
theorem tmod_range {a n : Int} (h0 : 0 ≤ a) (hn : 0 < n) : 0 ≤ Int.tmod a n ∧ Int.tmod a n < n := ⟨Int.tmod_nonneg _ h0, Int.tmod_lt_of_pos _ hn⟩
theorem other_place {f v n : Int} (hf0 : 0 ≤ f) (hf : f < n) (hv : 0 ≤ v) (hv2 : v < n - 1) : f ≠ Int.tmod (f + 1 + v) n := by
  rw [Int.tmod_eq_emod_of_nonneg (by omega)]
  by_cases h : f + 1 + v < n
  · rw [Int.emod_eq_of_lt (by omega) h]; omega
  · have : (f + 1 + v) % n = f + 1 + v - n := by
      rw [← Int.sub_emod_right, Int.emod_eq_of_lt (by omega) (by omega)]
    rw [this]; omega
theorem made_2 {sh : Nat} (hsh : 1 ≤ sh) (hsp : sh ≤ ps.length) (hp2 : ps.length ≤ 6) (hp1 : 2 ≤ ps.length) (hsl : ps.length ≤ 4 + sh) (hps : PlacesPre ps) {xp : List Int} (hpl : xp.length = ps.length) (hp : ∀ i, i < xp.length → -4000 ≤ rd xp i default ∧ rd xp i default ≤ 4000) :
    ∀ (it : Nat) (k a : Int) (net : List Int) (rs : List T.Road) (xf : List Int), 0 ≤ k → k < (it : Int) → CO l a → net.length = ps.length → (∀ i, i < net.length → -(60 * (2 * (rs.length : Int))) ≤ rd net i default ∧ rd net i default ≤ 60 * (2 * (rs.length : Int))) → (∀ i, i < rs.length → RoadPre ps.length (rd rs i default)) → (rs.length : Int) + k ≤ 5 → xf.length = rs.length → (∀ i, i < xf.length → -600 ≤ rd xf i default ∧ rd xf i default ≤ 600) →
    Okk (Codes_Made.j2 K it (k, a, net, xf, xp, (), (ps.length : Int), (sh : Int), ps, [], [], rs, (), (), (), (), (), l)) fun r => MadeOk r.1 r.2.1 r.2.2.1 ∧ CO l r.2.2.2.at_
  | 0, k, a, net, rs, xf, h0, hk, h, hnl, hn, hr, hrl, hxl, hx => by omega
  | it + 1, k, a, net, rs, xf, h0, hk, h, hnl, hn, hr, hrl, hxl, hx => by
    rw [Codes_Made.j2]
    refine .seld (fun hq => ?_) (fun hq => made_9 hsh hsp hp2 hps hnl (fun i hi => by have := hn i hi; omega) hpl hp a rs xf h hr (by omega) (by omega) hxl hx)
    have step : ∀ (q a : Int) (c : Bool) (r : T.Road), CO l a → -60 ≤ q → q ≤ 60 → RoadPre ps.length r → Okk (Codes_Made.j3 K (Codes_Made.j2 K it) (q, a, c, r.Lift.High, r.Lift.Low, r.Rest.High, r.Rest.Low, r.Walk, r.Area, r.Length, r.To, r.From, (), k, net, xf, xp, (), (ps.length : Int), (sh : Int), ps, [], [], rs, (), (), (), (), (), l)) fun r => MadeOk r.1 r.2.1 r.2.2.1 ∧ CO l r.2.2.2.at_ := by
      intro q a c r h q0 q1 hR
      have hf0 := hR.f0; have hf1 := hR.f1; have ht0 := hR.t0; have ht1 := hR.t1
      have b1 := hn r.From.toNat (by omega)
      unfold Codes_Made.j3 Codes_Made.j4
      dsimp only
      rw [sel_dt (by simp; omega), sel_dt (by simp; omega)]
      simp only [List.length_set]
      simp (disch := omega) only [sel_dt]
      rw [w64_small (n := rd net r.From.toNat default + q) (by omega) (by omega)]
      have h2 : ∀ i, i < (net.set r.From.toNat (rd net r.From.toNat default + q)).length → -(60 * (2 * (rs.length : Int))) - 60 ≤ rd (net.set r.From.toNat (rd net r.From.toNat default + q)) i default ∧ rd (net.set r.From.toNat (rd net r.From.toNat default + q)) i default ≤ 60 * (2 * (rs.length : Int)) + 60 :=
        all_set (n := r.From.toNat) (x := rd net r.From.toNat default + q) (P := fun z => -(60 * (2 * (rs.length : Int))) - 60 ≤ z ∧ z ≤ 60 * (2 * (rs.length : Int)) + 60) (fun i hi => by have := hn i hi; omega) (by omega)
      generalize hnet2 : net.set r.From.toNat (rd net r.From.toNat default + q) = net2 at *
      have hl2 : net2.length = net.length := by rw [← hnet2, List.length_set]
      have b2 := h2 r.To.toNat (by omega)
      rw [w64_small (n := rd net2 r.To.toNat default - q) (by omega) (by omega), w64_small (n := k - 1) (by omega) (by omega)]
      refine made_2 hsh hsp hp2 hp1 hsl hps hpl hp it (k - 1) a (net2.set r.To.toNat (rd net2 r.To.toNat default - q)) (rs ++ [{ r with Closed := c }]) (xf ++ [q]) (by omega) (by omega) h (by rw [List.length_set]; omega) ?_ (all_snoc hr ?_) (by simp; omega) (by simp [hxl]) (all_snoc (P := fun q => -600 ≤ q ∧ q ≤ 600) hx (by omega))
      · have el : ((rs ++ [{ r with Closed := c }]).length : Int) = (rs.length : Int) + 1 := by simp
        rw [el]
        exact all_set (n := r.To.toNat) (x := rd net2 r.To.toNat default - q) (P := fun z => -(60 * (2 * ((rs.length : Int) + 1))) ≤ z ∧ z ≤ 60 * (2 * ((rs.length : Int) + 1))) (fun i hi => by have := h2 i hi; omega) (by omega)
      · obtain ⟨f0, f1, t0, t1, ne, l0, l1, a0, a1, r0, r1, r2, v0, v1, v2⟩ := hR
        exact ⟨f0, f1, t0, t1, ne, l0, l1, a0, a1, r0, r1, r2, v0, v1, v2⟩
    refine (next_o h (by omega)).bind fun r1 ⟨a1, b1, h⟩ => ?_
    rw [w64_small (n := (ps.length : Int) - 1) (by omega) (by omega)]
    refine (next_o h (by omega)).bind fun r2 ⟨a2, b2, h⟩ => ?_
    rw [sel_net (by omega), w64_small (n := r1.1 + 1) (by omega) (by omega), w64_small (n := r1.1 + 1 + r2.1) (by omega) (by omega)]
    have ht := tmod_range (a := r1.1 + 1 + r2.1) (n := (ps.length : Int)) (by omega) (by omega)
    have ho := other_place a1 b1 a2 b2
    refine (road_o h _ _).bind fun r4 ⟨hR, h⟩ => (one_o h (by omega)).bind fun r5 h => (range_o h (by omega) (by omega) (by omega)).bind fun r6 ⟨a6, b6, h⟩ => ?_
    obtain ⟨rf, rt, l0, l1, a0, a1', r0, r1', r2', v0, v1, v2, rc⟩ := hR
    have hR' : RoadPre ps.length r4.1 := by
      refine ⟨?_, ?_, ?_, ?_, ?_, l0, l1, a0, a1', r0, r1', r2', by omega, v1, by omega⟩ <;> (try rw [rf]) <;> (try rw [rt]) <;> first | omega | exact ho
    exact .sel (fun _ => step 0 _ _ _ h (by omega) (by omega) hR') (fun _ => step _ _ _ _ h a6 b6 hR')
theorem made_10 {sh : Nat} (hsh : 1 ≤ sh) (hsp : sh ≤ ps.length) (hp2 : ps.length ≤ 6) (hsl : ps.length ≤ 4 + sh) (hps : PlacesPre ps) {xp : List Int} (hpl : xp.length = ps.length) (hp : ∀ i, i < xp.length → -4000 ≤ rd xp i default ∧ rd xp i default ≤ 4000) (a : Int) (h : CO l a) :
    Okk (Codes_Made.j10 K ([], xp, (), (ps.length : Int), a, (sh : Int), ps, [], [], [], (), (), (), (), (), l)) fun r => MadeOk r.1 r.2.1 r.2.2.1 ∧ CO l r.2.2.2.at_ := by
  have hK := K_1000
  have hrep : ∀ i, i < (List.replicate ps.length (0 : Int)).length → -600 ≤ rd (List.replicate ps.length (0 : Int)) i default ∧ rd (List.replicate ps.length (0 : Int)) i default ≤ 600 := fun i hi => by
    rw [rd_repl (by simpa using hi)]; omega
  unfold Codes_Made.j10
  dsimp only
  rw [sel_eqt rfl, sel_dt (by omega), sel_dt (by omega), Int.toNat_natCast]
  refine .seld (fun hn => ?_) (fun hn => made_9 hsh hsp hp2 hps (by simp) hrep hpl hp a [] [] h (fun i hi => by simp at hi) (by simp) (by simp; omega) rfl (fun i hi => by simp at hi))
  refine (next_o h (by omega)).bind fun r4 ⟨a4, b4, h⟩ => ?_
  exact made_2 hsh hsp hp2 (by omega) hsl hps hpl hp K r4.1 _ _ [] [] a4 (by omega) h (by simp) (fun i hi => by rw [rd_repl (by simpa using hi)]; simp) (fun i hi => by simp at hi) (by simp; omega) rfl (fun i hi => by simp at hi)
theorem made_1 {sh : Nat} (hsh : 1 ≤ sh) (hsp : sh ≤ ps.length) (hp2 : ps.length ≤ 6) (hsl : ps.length ≤ 4 + sh) (hps : PlacesPre ps) : ∀ (d i it : Nat) (a : Int) (xp : List Int), i + d = ps.length → d < it → CO l a → xp.length = ps.length → (∀ i, i < xp.length → -4000 ≤ rd xp i default ∧ rd xp i default ≤ 4000) →
    Okk (Codes_Made.j1 K it ((i : Int), [], xp, (), (ps.length : Int), a, (sh : Int), ps, [], [], [], (), (), (), (), (), l)) fun r => MadeOk r.1 r.2.1 r.2.2.1 ∧ CO l r.2.2.2.at_
  | 0, i, it + 1, a, xp, hi, hit, h, hpl, hp => by
    rw [Codes_Made.j1, sel_df (by omega)]
    exact made_10 hsh hsp hp2 hsl hps hpl hp a h
  | d + 1, i, it + 1, a, xp, hi, hit, h, hpl, hp => by
    rw [Codes_Made.j1]
    simp (disch := omega) only [sel_dt, w64_small]
    refine (range_o h (by omega) (by omega) (by omega)).bind fun r1 ⟨a1, b1, h⟩ => ?_
    rw [Int.toNat_natCast]
    have ih := made_1 hsh hsp hp2 hsl hps d (i + 1) it r1.2.at_ (xp.set i r1.1) (by omega) (by omega) h (by simp [hpl]) (all_set (P := fun z => -4000 ≤ z ∧ z ≤ 4000) hp ⟨a1, b1⟩)
    push_cast at ih
    exact ih
end
theorem made_0 {l : List Int} {sh : Nat} (hsh : 1 ≤ sh) (hs2 : sh ≤ 2) : ∀ (it : Nat) (n a : Int) (ps : List T.Place), 0 ≤ n → n < (it : Int) → CO l a → sh ≤ ps.length → (ps.length : Int) + n ≤ 4 + (sh : Int) → PlacesPre ps →
    Okk (Codes_Made.j0 K it (n, a, (sh : Int), ps, [], [], [], (), (), (), (), (), l)) fun r => MadeOk r.1 r.2.1 r.2.2.1 ∧ CO l r.2.2.2.at_
  | 0, n, a, ps, h0, hn, h, hsp, hl, hps => by omega
  | it + 1, n, a, ps, h0, hn, h, hsp, hl, hps => by
    have hK := K_1000
    rw [Codes_Made.j0]
    refine .seld (fun hq => ?_) (fun hq => ?_)
    · refine (next_o h (by omega)).bind fun r1 ⟨a1, b1, h⟩ => ?_
      rw [sel_dt (by simp; omega), w64_small (n := n - 1) (by omega) (by omega), w64_small (n := 0 - r1.1) (by omega) (by omega)]
      exact made_0 hsh hs2 it (n - 1) _ _ (by omega) (by omega) h (by simp; omega) (by simp; omega) (all_snoc (P := fun (p : T.Place) => -100 ≤ p.Height ∧ p.Height ≤ 100) hps (by dsimp only; omega))
    · unfold Codes_Made.j11
      dsimp only
      rw [sel_eqt rfl, sel_dt (by omega), Int.toNat_natCast]
      exact made_1 hsh hsp (by omega) (by omega) hps (ps.length - sh) sh K a _ (by omega) (by omega) h (by simp) (fun i hi => by rw [rd_repl (by simpa using hi)]; omega)
theorem made_o {l : List Int} {a : Int} (h : CO l a) : Okk (Codes_Made ⟨l, a⟩) fun r => MadeOk r.1 r.2.1 r.2.2.1 ∧ CO l r.2.2.2.at_ := by
  have hK := K_1000
  unfold Codes_Made Codes_Made.f
  refine (one_o h (by omega)).bind fun r0 h => .sel (fun _ => ?_) (fun _ => ?_)
  · unfold Codes_Made.j12
    refine (next_o h (by omega)).bind fun r1 ⟨a1, b1, h⟩ => ?_
    refine made_0 (sh := 2) (by omega) (by omega) K r1.1 _ _ a1 (by omega) h (by simp) (by simp; omega) (fun i hi => ?_)
    have : i = 0 ∨ i = 1 := by simp at hi; omega
    rcases this with rfl | rfl <;> decide
  · unfold Codes_Made.j12
    refine (next_o h (by omega)).bind fun r1 ⟨a1, b1, h⟩ => ?_
    refine made_0 (sh := 1) (by omega) (by omega) K r1.1 _ _ a1 (by omega) h (by simp) (by simp; omega) (fun i hi => ?_)
    have : i = 0 := by simp at hi; omega
    subst this; decide
end Go.Proofs.Ytlhknehkcflkgaa

/- The rules that are drawn are right. -/
namespace Go.Proofs.Ytlhknehkcflkgaa
open Go Ab
/-- a node's numbers go up -/
def shiftN (k : Int) (x : T.RuleNode) : T.RuleNode :=
  if x.Kind = 1 then x else if x.Kind = 3 ∨ x.Kind = 4 then { Kind := x.Kind, Cond := x.Cond, Left := x.Left + k, Right := x.Right + k } else { Kind := x.Kind, Cond := x.Cond, Left := x.Left + k, Right := x.Right }
theorem RT.at_shift {b L : List T.RuleNode} {k : Nat} (hL : k + b.length ≤ L.length) (h : ∀ j, j < b.length → rd L (k + j) default = shiftN k (rd b j default)) : ∀ (t : RT) (off : Nat), t.at b off → t.at L (k + off)
  | .cond c, off, ⟨h1, h2, h3, h4⟩ => by
    refine ⟨by omega, ?_, h3, h4⟩
    rw [h off h1, h2]; rfl
  | .not a, off, ⟨h1, h2, h3⟩ => by
    refine ⟨RT.at_shift hL h a off h1, by omega, ?_⟩
    rw [show k + off + a.size = k + (off + a.size) by omega, h _ h2, h3]
    unfold shiftN
    rw [if_neg (by simp), if_neg (by simp)]
    dsimp only
    congr 1
    push_cast; omega
  | .bin kd a c, off, ⟨h1, h2, h3, h4, h5⟩ => by
    refine ⟨RT.at_shift hL h a off h1, by have := RT.at_shift hL h c _ h2; rwa [show k + (off + a.size) = k + off + a.size by omega] at this, by omega, h4, ?_⟩
    rw [show k + off + a.size + c.size = k + (off + a.size + c.size) by omega, h _ h3, h5]
    unfold shiftN
    rw [if_neg (by dsimp only; omega), if_pos (by dsimp only; omega)]
    dsimp only
    congr 1 <;> push_cast <;> omega
structure NodeOk (C : Nat) (x : T.RuleNode) : Prop where
  c : x.Kind = 1 → 0 ≤ x.Cond ∧ x.Cond < (C : Int)
  l0 : 0 ≤ x.Left
  l1 : x.Left ≤ 500
  r0 : 0 ≤ x.Right
  r1 : x.Right ≤ 500
structure RuleDrawn (C dp : Nat) (l : List T.RuleNode) : Prop where
  tree : ∃ t : RT, t.at l 0 ∧ l.length = t.size ∧ t.depth ≤ dp + 1
  len : l.length < 2 ^ (dp + 1)
  c : ∀ i, i < l.length → NodeOk C (rd l i default)
theorem one_cond {C dp : Nat} {c : Int} (h0 : 0 ≤ c) (h1 : c < (C : Int)) (hC : C ≤ 64) : RuleDrawn C dp [{ Kind := 1, Cond := c, Left := 0, Right := 0 }] := by
  refine ⟨⟨.cond c, ⟨by simp, rfl, h0, by omega⟩, rfl, by simp [RT.depth]⟩, ?_, fun i hi => ?_⟩
  · have : 2 ^ 1 ≤ 2 ^ (dp + 1) := Nat.pow_le_pow_right (by omega) (by omega)
    simp only [List.length_cons, List.length_nil]; omega
  · have : i = 0 := by simp at hi; omega
    subst this
    exact ⟨fun _ => ⟨h0, h1⟩, by show (0 : Int) ≤ 0; omega, by show (0 : Int) ≤ 500; omega, by show (0 : Int) ≤ 0; omega, by show (0 : Int) ≤ 500; omega⟩
theorem not_rule {C dp : Nat} {a : List T.RuleNode} (h : RuleDrawn C dp a) (hl : a.length ≤ 400) : RuleDrawn C (dp + 1) (a ++ [{ Kind := 2, Cond := 0, Left := (a.length : Int) - 1, Right := 0 }]) := by
  obtain ⟨⟨t, h1, h2, h3⟩, h4, h5⟩ := h
  have hs := t.size_pos
  refine ⟨⟨.not t, ⟨?_, by simp [h2], ?_⟩, by simp [RT.size, h2], by simp only [RT.depth]; omega⟩, ?_, all_snoc (P := NodeOk C) h5 ⟨(fun h => by cases h), by dsimp only; omega, by dsimp only; omega, by dsimp only; omega, by dsimp only; omega⟩⟩
  · have := RT.at_shift (b := a) (L := a ++ [{ Kind := 2, Cond := 0, Left := (a.length : Int) - 1, Right := 0 }]) (k := 0) (by simp) (fun j hj => by
      rw [Nat.zero_add, rd_snoc_lt hj]
      unfold shiftN
      split
      · rfl
      · split <;> simp) t 0 h1
    simpa using this
  · rw [Nat.zero_add, ← h2, rd_snoc_eq]
  · have : 2 ^ (dp + 1 + 1) = 2 * 2 ^ (dp + 1) := by rw [Nat.pow_succ]; omega
    have : 1 ≤ 2 ^ (dp + 1) := Nat.one_le_two_pow
    simp only [List.length_append, List.length_cons, List.length_nil]; omega
theorem rd_app_lt {xs ys : List T.RuleNode} {i : Nat} (h : i < xs.length) : rd (xs ++ ys) i default = rd xs i default := by simp [rd, List.getD, List.getElem?_append_left h]
theorem rd_app_ge {xs ys : List T.RuleNode} {i : Nat} : rd (xs ++ ys) (xs.length + i) default = rd ys i default := by simp [rd, List.getD, List.getElem?_append_right]
theorem bin_rule {C dp : Nat} {a b b' : List T.RuleNode} {kd : Int} (hk : kd = 3 ∨ kd = 4) (ha : RuleDrawn C dp a) (hb : RuleDrawn C dp b) (hl : a.length + b.length ≤ 400) (hbl : b'.length = b.length) (hb' : ∀ j, j < b.length → rd b' j default = shiftN a.length (rd b j default)) (hn : ∀ j, j < b'.length → NodeOk C (rd b' j default)) :
    RuleDrawn C (dp + 1) (a ++ b' ++ [{ Kind := kd, Cond := 0, Left := (a.length : Int) - 1, Right := (a.length : Int) + (b.length : Int) - 1 }]) := by
  obtain ⟨⟨t, h1, h2, h3⟩, h4, h5⟩ := ha
  obtain ⟨⟨u, g1, g2, g3⟩, g4, g5⟩ := hb
  have hs := t.size_pos
  have hu := u.size_pos
  refine ⟨⟨.bin kd t u, ⟨?_, ?_, by simp; omega, hk, ?_⟩, by simp [RT.size]; omega, by simp only [RT.depth]; omega⟩, ?_, all_snoc (P := NodeOk C) (fun i hi => ?_) ⟨(fun h => by dsimp only at h; omega), by dsimp only; omega, by dsimp only; omega, by dsimp only; omega, by dsimp only; omega⟩⟩
  · have := RT.at_shift (b := a) (L := a ++ b' ++ [{ Kind := kd, Cond := 0, Left := (a.length : Int) - 1, Right := (a.length : Int) + (b.length : Int) - 1 }]) (k := 0) (by simp only [List.length_append, List.length_cons, List.length_nil]; omega) (fun j hj => by
      rw [Nat.zero_add, rd_snoc_lt (by simp; omega), rd_app_lt hj]
      unfold shiftN
      split
      · rfl
      · split <;> simp) t 0 h1
    simpa using this
  · have := RT.at_shift (b := b) (L := a ++ b' ++ [{ Kind := kd, Cond := 0, Left := (a.length : Int) - 1, Right := (a.length : Int) + (b.length : Int) - 1 }]) (k := a.length) (by simp; omega) (fun j hj => by
      rw [rd_snoc_lt (by simp; omega), rd_app_ge]
      exact hb' j hj) u 0 g1
    rw [Nat.zero_add, ← h2]
    simpa using this
  · have e : 0 + t.size + u.size = (a ++ b').length := by simp; omega
    rw [e, rd_snoc_eq]
    have e1 : ((0 + t.size : Nat) : Int) - 1 = (a.length : Int) - 1 := by omega
    have e2 : (((a ++ b').length : Nat) : Int) - 1 = (a.length : Int) + (b.length : Int) - 1 := by simp; omega
    rw [e1, e2]
  · have : 2 ^ (dp + 1 + 1) = 2 * 2 ^ (dp + 1) := by rw [Nat.pow_succ]; omega
    simp; omega
  · by_cases hi2 : i < a.length
    · rw [rd_app_lt hi2]; exact h5 i hi2
    · obtain ⟨j, rfl⟩ : ∃ j, i = a.length + j := ⟨i - a.length, by omega⟩
      rw [rd_app_ge]
      exact hn j (by simp at hi; omega)
theorem rule_shift {Q : List T.RuleNode × T.draw_Codes → Prop} {rec : T.draw_Codes → Int → Int → Option (List T.RuleNode × T.draw_Codes)} {C : Nat} {a b : List T.RuleNode} {l : List Int} {at_ : Int} (hl : a.length + b.length ≤ 400) (hb : ∀ j, j < b.length → NodeOk C (rd b j default) ∧ (rd b j default).Left < (b.length : Int) ∧ (rd b j default).Right < (b.length : Int))
    (H : ∀ b', b'.length = b.length → (∀ j, j < b.length → rd b' j default = shiftN a.length (rd b j default)) → (∀ j, j < b'.length → NodeOk C (rd b' j default)) → Okk (Codes_Rule.j3 rec K (b', at_, a, (), l)) Q) :
    ∀ (d i it : Nat) (b' : List T.RuleNode), i + d = b.length → d < it → b'.length = b.length → (∀ j, j < i → rd b' j default = shiftN a.length (rd b j default)) → (∀ j, i ≤ j → rd b' j default = rd b j default) →
      Okk (Codes_Rule.j0 rec K it ((i : Int), b', at_, a, (), l)) Q
  | 0, i, it + 1, b', hi, hit, hbl, h1, h2 => by
    rw [Codes_Rule.j0, sel_df (by omega)]
    refine H b' hbl (fun j hj => h1 j (by omega)) (fun j hj => ?_)
    rw [h1 j (by omega)]
    obtain ⟨⟨n1, n2, n3, n4, n5⟩, n6, n7⟩ := hb j (by omega)
    unfold shiftN
    split
    · exact ⟨n1, n2, n3, n4, n5⟩
    · split
      · exact ⟨fun h => by contradiction, by dsimp only; omega, by dsimp only; omega, by dsimp only; omega, by dsimp only; omega⟩
      · exact ⟨fun h => by contradiction, by dsimp only; omega, by dsimp only; omega, n4, n5⟩
  | d + 1, i, it + 1, b', hi, hit, hbl, h1, h2 => by
    have hx := hb i (by omega)
    have e := h2 i (Nat.le_refl _)
    have hib : i < b'.length := by omega
    -- what comes of the round
    have step : ∀ b'' : List T.RuleNode, b''.length = b'.length → (∀ j, j ≠ i → rd b'' j default = rd b' j default) → rd b'' i default = shiftN a.length (rd b i default) → Okk (Codes_Rule.j2 rec K (Codes_Rule.j0 rec K it) ((i : Int), b'', at_, a, (), l)) Q := by
      intro b'' hl2 hne heq
      have ih := rule_shift hl hb H d (i + 1) it b'' (by omega) (by omega) (by omega) (fun j hj => by
        by_cases hji : j = i
        · subst hji; exact heq
        · rw [hne j hji]; exact h1 j (by omega)) (fun j hj => by rw [hne j (by omega)]; exact h2 j (by omega))
      push_cast at ih
      unfold Codes_Rule.j2
      dsimp only
      rw [w64_small (by omega) (by omega)]
      exact ih
    obtain ⟨⟨n1, n2, n3, n4, n5⟩, n6, n7⟩ := hx
    rw [Codes_Rule.j0, Int.toNat_natCast]
    simp (disch := omega) only [sel_dt]
    rw [e]
    generalize hg : rd b i default = x at *
    by_cases hk1 : x.Kind = 1
    · rw [sel_nef hk1]
      unfold Codes_Rule.j1
      dsimp only
      rw [Int.toNat_natCast]
      simp (disch := omega) only [sel_dt]
      rw [e, sel_eqf (by omega), sel_eqf (by omega)]
      exact step b' rfl (fun j hj => rfl) (by rw [e]; unfold shiftN; rw [if_pos hk1])
    · rw [sel_net hk1, w64_small (n := x.Left + _) (by omega) (by omega)]
      unfold Codes_Rule.j1
      dsimp only
      rw [Int.toNat_natCast]
      have es : rd (b'.set i { Kind := x.Kind, Cond := x.Cond, Left := x.Left + (a.length : Int), Right := x.Right }) i default = { Kind := x.Kind, Cond := x.Cond, Left := x.Left + (a.length : Int), Right := x.Right } := rd_set_eq hib
      simp only [List.length_set]
      simp (disch := omega) only [sel_dt]
      rw [es]
      dsimp only
      have two : ∀ y : T.RuleNode, ((b'.set i { Kind := x.Kind, Cond := x.Cond, Left := x.Left + (a.length : Int), Right := x.Right }).set i y) = b'.set i y := fun y => List.set_set ..
      by_cases hk3 : x.Kind = 3
      · rw [sel_eqt hk3, w64_small (by omega) (by omega), two]
        exact step _ (by simp) (fun j hj => rd_set_ne (fun h => hj h.symm)) (by rw [rd_set_eq hib]; unfold shiftN; rw [if_neg hk1, if_pos (.inl hk3)])
      · rw [sel_eqf hk3]
        by_cases hk4 : x.Kind = 4
        · rw [sel_eqt hk4, w64_small (by omega) (by omega), two]
          exact step _ (by simp) (fun j hj => rd_set_ne (fun h => hj h.symm)) (by rw [rd_set_eq hib]; unfold shiftN; rw [if_neg hk1, if_pos (.inr hk4)])
        · rw [sel_eqf hk4]
          exact step _ (by simp) (fun j hj => rd_set_ne (fun h => hj h.symm)) (by rw [rd_set_eq hib]; unfold shiftN; rw [if_neg hk1, if_neg (by omega)])
/-- numbers of nodes are those of nodes ahead -/
theorem RT.links {l : List T.RuleNode} : ∀ (t : RT) (b : Nat), t.at l b → ∀ j, b ≤ j → j < b + t.size → (rd l j default).Left < (l.length : Int) ∧ (rd l j default).Right < (l.length : Int)
  | .cond c, b, ⟨h1, h2, h3, h4⟩, j, g1, g2 => by
    have : j = b := by simp [RT.size] at g2; omega
    subst this
    rw [h2]; dsimp only; omega
  | .not a, b, ⟨h1, h2, h3⟩, j, g1, g2 => by
    by_cases hj : j < b + a.size
    · exact RT.links a b h1 j g1 hj
    · have : j = b + a.size := by simp [RT.size] at g2; omega
      subst this
      rw [h3]; dsimp only; omega
  | .bin kd a c, b, ⟨h1, h2, h3, h4, h5⟩, j, g1, g2 => by
    by_cases hj : j < b + a.size
    · exact RT.links a b h1 j g1 hj
    · by_cases hj2 : j < b + a.size + c.size
      · exact RT.links c (b + a.size) h2 j (by omega) hj2
      · have : j = b + a.size + c.size := by simp [RT.size] at g2; omega
        subst this
        rw [h5]; dsimp only; omega
theorem rule_o {l : List Int} {C : Nat} (hC : 1 ≤ C) (hC2 : C ≤ 64) : ∀ (n dp : Nat) (a : Int), dp < n → dp ≤ 6 → CO l a → Okk (Codes_Rule.F n (⟨l, a⟩, (C : Int), (dp : Int))) fun r => RuleDrawn C dp r.1 ∧ CO l r.2.at_
  | 0, dp, a, hn, hd, h => by omega
  | n + 1, dp, a, hn, hd, h => by
    have hK := K_1000
    show Okk (Codes_Rule.f (fun c conds deep => Codes_Rule.F n (c, conds, deep)) K ⟨l, a⟩ (C : Int) (dp : Int)) _
    unfold Codes_Rule.f
    refine .seld (fun h0 => ?_) (fun h0 => ?_)
    · refine (next_o h (by omega)).bind fun r1 ⟨a1, b1, h⟩ => .some ⟨one_cond a1 b1 hC2, h⟩
    · obtain ⟨dp, rfl⟩ : ∃ e, dp = e + 1 := ⟨dp - 1, by omega⟩
      have e1 : w64 (((dp + 1 : Nat) : Int) - 1) = (dp : Int) := by rw [w64_small (by omega) (by omega)]; omega
      refine (next_o h (by omega)).bind fun r1 ⟨a1, b1, h⟩ => .sel (fun _ => ?_) (fun _ => ?_)
      · refine (next_o h (by omega)).bind fun r3 ⟨a3, b3, h⟩ => .some ⟨one_cond a3 b3 hC2, h⟩
      · rw [e1]
        have lim : 2 ^ (dp + 1) ≤ 64 := by
          have : 2 ^ (dp + 1) ≤ 2 ^ 6 := Nat.pow_le_pow_right (by omega) (by omega)
          omega
        refine (rule_o hC hC2 n dp _ (by omega) (by omega) h).bind fun r3 ⟨hA, h⟩ => (one_o h (by omega)).bind fun r4 h => .sel (fun _ => ?_) (fun _ => ?_)
        · have hl := hA.len
          rw [sel_dt (by simp; omega), w64_small (by omega) (by omega)]
          exact .some ⟨not_rule hA (by omega), h⟩
        · refine (rule_o hC hC2 n dp _ (by omega) (by omega) h).bind fun r6 ⟨hB, h⟩ => ?_
          have hl := hA.len
          have hl2 := hB.len
          obtain ⟨t, u1, u2, u3⟩ := hB.tree
          refine rule_shift (C := C) (b := r6.1) (by omega) (fun j hj => ⟨hB.c j hj, RT.links t 0 u1 j (Nat.zero_le _) (by omega)⟩) (fun b' g1 g2 g3 => ?_) r6.1.length 0 K r6.1 (by omega) (by omega) rfl (fun j hj => by omega) (fun j hj => rfl)
          unfold Codes_Rule.j3
          dsimp only
          rw [sel_dt (by omega)]
          refine (range_o h (by omega) (by omega) (by omega)).bind fun r7 ⟨a7, b7, h⟩ => ?_
          rw [sel_dt (by simp; omega), Nat.add_sub_cancel, w64_small (n := (r3.1.length : Int) - 1) (by omega) (by omega), w64_small (n := (r3.1.length : Int) + (b'.length : Int)) (by omega) (by omega), w64_small (n := (r3.1.length : Int) + (b'.length : Int) - 1) (by omega) (by omega), g1]
          exact .some ⟨bin_rule (by omega) hA hB (by omega) g1 g2 g3, h⟩
theorem RuleDrawn.ok {C dp : Nat} {l : List T.RuleNode} (h : RuleDrawn C dp l) (hd : dp ≤ 5) : RuleOk C l := by
  obtain ⟨⟨t, h1, h2, h3⟩, h4, h5⟩ := h
  have : 2 ^ (dp + 1) ≤ 2 ^ 6 := Nat.pow_le_pow_right (by omega) (by omega)
  exact ⟨⟨t, h1, h2, by omega⟩, by omega, fun i hi hk => ((h5 i hi).c hk).2⟩
end Go.Proofs.Ytlhknehkcflkgaa

/- The sites that are drawn are right. -/
namespace Go.Proofs.Ytlhknehkcflkgaa
open Go Ab
theorem sensor_o {l : List Int} {a : Int} (h : CO l a) {R F D : Nat} {kind ad tg : Int} (k0 : 1 ≤ kind) (k1 : kind ≤ 6) (a0 : 0 ≤ ad) (a1 : ad ≤ 255) (t0 : 0 ≤ tg) (tr : kind ≠ 5 → kind ≠ 6 → tg < (R : Int)) (tf : kind = 5 → tg < (F : Int)) (td : kind = 6 → tg < (D : Int)) :
    Okk (Codes_Sensor ⟨l, a⟩ kind ad tg) fun r => SensorOk R F D r.1 ∧ r.1.Address = ad ∧ CO l r.2.at_ := by
  unfold Codes_Sensor Codes_Sensor.f ref05_Stately ref05_Stately.f Codes_Sensor.j0
  refine (range_o h (by omega) (by omega) (by omega)).bind fun r0 ⟨g0, b0, h⟩ => ?_
  rw [obind_some]
  refine .sel (fun _ => ?_) (fun _ => .some ⟨⟨k0, k1, a0, a1, t0, tr, tf, td, by dsimp only; omega, by dsimp only; omega, by dsimp only; omega, by dsimp only; omega, by dsimp only; omega, by dsimp only; omega, by dsimp only; omega, by dsimp only; omega, g0, by dsimp only; omega⟩, rfl, h⟩)
  refine (range_o h (by omega) (by omega) (by omega)).bind fun r3 ⟨g3, b3, h⟩ => (range_o h (by omega) (by omega) (by omega)).bind fun r4 ⟨g4, b4, h⟩ => (next_o h (by omega)).bind fun r5 ⟨g5, b5, h⟩ => (next_o h (by omega)).bind fun r6 ⟨g6, b6, h⟩ => ?_
  exact .some ⟨⟨k0, k1, a0, a1, t0, tr, tf, td, by dsimp only; omega, by dsimp only; omega, by dsimp only; omega, by dsimp only; omega, g5, by dsimp only; omega, g6, by dsimp only; omega, g0, by dsimp only; omega⟩, rfl, h⟩
theorem level_o {l : List Int} {a : Int} (h : CO l a) : Okk (Codes_Level ⟨l, a⟩) fun r => LevelOk r.1 ∧ r.1.Cut ≤ 120 ∧ r.1.Delay ≤ 11 ∧ CO l r.2.at_ := by
  unfold Codes_Level Codes_Level.f
  refine (range_o h (by omega) (by omega) (by omega)).bind fun r0 ⟨g0, b0, h⟩ => (next_o h (by omega)).bind fun r1 ⟨g1, b1, h⟩ => (next_o h (by omega)).bind fun r2 ⟨g2, b2, h⟩ => ?_
  exact .some ⟨⟨g2, b2, by dsimp only; omega, g1, by dsimp only; omega⟩, b0, by dsimp only; omega, h⟩
theorem cond_o {l : List Int} {a : Int} (h : CO l a) {s : T.Site} (hs : 1 ≤ s.Sensors.length) (hr : 1 ≤ s.Air.Mine.Roads.length) (hl : s.Sensors.length ≤ 1000) (hl2 : s.Air.Mine.Roads.length ≤ 1000) : Okk (Codes_Cond ⟨l, a⟩ s) fun r => CondOk s.Sensors s.Air.Mine.Roads.length r.1 ∧ CO l r.2.at_ := by
  have hK := K_1000
  unfold Codes_Cond Codes_Cond.f
  refine (range_o h (by omega) (by omega) (by omega)).bind fun r0 ⟨g0, b0, h⟩ => (range_o h (by omega) (by omega) (by omega)).bind fun r1 ⟨g1, b1, h⟩ => (level_o h).bind fun r2 ⟨hL, _, _, h⟩ => ?_
  have four : ∀ kind a, CO l a → 1 ≤ kind → kind ≤ 5 → kind ≠ 3 → Okk (Codes_Cond.j4 K (r2.1.Delay, r2.1.Clear, r2.1.Cut, r1.1, kind, (), a, (), (), s.Sensors, s.Air.Mine.Roads, (), l)) fun r => CondOk s.Sensors s.Air.Mine.Roads.length r.1 ∧ CO l r.2.at_ := by
    intro kind a h k0 k1 k3
    unfold Codes_Cond.j4
    refine .sel (fun hk => ?_) (fun hk => ?_)
    · have hk : kind = 5 := by simpa using hk
      unfold Codes_Cond.j3
      dsimp only
      rw [sel_eqf (by omega)]
      unfold Codes_Cond.j2
      refine (next_o h (by omega)).bind fun r ⟨v0, v1, h⟩ => .some ⟨⟨k0, k1, v0, (fun h => absurd hk h), (fun h => absurd h k3), (fun _ => v1), g1, by dsimp only; omega, hL⟩, h⟩
    · have hk : kind ≠ 5 := by simpa using hk
      unfold Codes_Cond.j3
      dsimp only
      rw [sel_eqf (by omega)]
      unfold Codes_Cond.j2
      refine (next_o h (by omega)).bind fun r ⟨v0, v1, h⟩ => .some ⟨⟨k0, k1, v0, (fun _ => v1), (fun h => absurd h k3), (fun h => absurd h hk), g1, by dsimp only; omega, hL⟩, h⟩
  have loop : ∀ (d i it : Nat), i + d = s.Sensors.length → d < it → r0.1 = 3 → Okk (Codes_Cond.j0 K it ((i : Int), r2.1.Delay, r2.1.Clear, r2.1.Cut, r1.1, r0.1, (), r2.2.at_, (), (), s.Sensors, s.Air.Mine.Roads, (), l)) fun r => CondOk s.Sensors s.Air.Mine.Roads.length r.1 ∧ CO l r.2.at_ := by
    intro d
    induction d with
    | zero =>
      intro i it hi hit h3
      obtain ⟨it, rfl⟩ : ∃ m, it = m + 1 := ⟨it - 1, by omega⟩
      rw [Codes_Cond.j0, sel_df (by omega)]
      exact four 1 _ h (by omega) (by omega) (by omega)
    | succ d ih =>
      intro i it hi hit h3
      obtain ⟨it, rfl⟩ : ∃ m, it = m + 1 := ⟨it - 1, by omega⟩
      have ih := ih (i + 1) it (by omega) (by omega) h3
      push_cast at ih
      rw [Codes_Cond.j0, Int.toNat_natCast]
      simp (disch := omega) only [sel_dt, w64_small]
      refine .sel (fun hk => .some ⟨⟨g0, b0, by dsimp only; omega, fun _ => by dsimp only; omega, fun _ => ?_, fun h5 => ?_, g1, by dsimp only; omega, hL⟩, h⟩) (fun _ => ih)
      · dsimp only; rw [Int.toNat_natCast]; simpa using hk
      · dsimp only at h5; omega
  refine .sel (fun hk => loop s.Sensors.length 0 K (by omega) (by omega) (by simpa using hk)) (fun hk => ?_)
  have hk : r0.1 ≠ 3 := by simpa using hk
  exact four _ _ h g0 b0 hk
/-! a site, piece by piece -/
structure SensPre (R F D : Nat) (ss : List T.Sensor) : Prop where
  se : ∀ i, i < ss.length → SensorOk R F D (rd ss i default)
  ad : ∀ i, i < ss.length → (rd ss i default).Address = (i : Int)
theorem SensPre.snoc {R F D : Nat} {ss : List T.Sensor} {x : T.Sensor} (h : SensPre R F D ss) (hx : SensorOk R F D x) (ha : x.Address = (ss.length : Int)) : SensPre R F D (ss ++ [x]) := by
  refine ⟨all_snoc (P := SensorOk R F D) h.se hx, fun i hi => ?_⟩
  by_cases h1 : i < ss.length
  · rw [rd_snoc_lt h1]; exact h.ad i h1
  · have : i = ss.length := by simp at hi; omega
    subst this
    rw [rd_snoc_eq]; exact ha
/-- what of a site's air stands fast -/
structure AirPre (mr : List T.Road) (mp : List T.Place) (fs : List T.Fan) (ds : List T.Door) (xf : List Int) : Prop where
  air : AirOk { Mine := { Places := mp, Roads := mr }, Fans := fs, Doors := ds }
  r1 : 1 ≤ mr.length
  r2 : mr.length ≤ 9
  fl : fs.length ≤ 2
  dl : ds.length ≤ 2
  p2 : mp.length ≤ 7
  xl : xf.length = mr.length
  x : ∀ i, i < xf.length → -600 ≤ rd xf i default ∧ rd xf i default ≤ 600
  len : ∀ i, i < mr.length → (rd mr i default).Length ≤ 400 ∧ (rd mr i default).Area ≤ 30
/-- what a drawn site is -/
structure SiteDrawn (s : T.Site) (xf : List Int) : Prop where
  ok : SiteOk s
  pre : AirPre s.Air.Mine.Roads s.Air.Mine.Places s.Air.Fans s.Air.Doors xf
  z1 : 1 ≤ s.Zones.length
  z2 : s.Zones.length ≤ 3
  c1 : 1 ≤ s.Conds.length
  c2 : s.Conds.length ≤ 4
  s2 : s.Sensors.length ≤ 8
  ho : ∀ i, i < s.Zones.length → (rd s.Zones i default).Hold ≤ 8 ∧ (rd s.Zones i default).Fresh ≤ 1
  pe : s.Persons = [{ Role := 1 }, { Role := 2 }, { Role := 1 }, { Role := 3 }]
section
variable {l : List Int} {xf xp : List Int} {mr : List T.Road} {mp : List T.Place} {fs : List T.Fan} {ds : List T.Door} {td tf : List Int}
theorem site_9 (hA : AirPre mr mp fs ds xf) {zs : List T.Zone} {cs : List T.Cond} {ss : List T.Sensor} {a : Int} (h : CO l a) (hS : SensPre mr.length fs.length ds.length ss) (s2 : ss.length ≤ 8) (hC : ∀ i, i < cs.length → CondOk ss mr.length (rd cs i default)) (c1 : 1 ≤ cs.length) (c2 : cs.length ≤ 4)
    (hZ : ∀ i, i < zs.length → ZoneOk cs.length mr.length (rd zs i default) ∧ (rd zs i default).Hold ≤ 8 ∧ (rd zs i default).Fresh ≤ 1) (z1 : 1 ≤ zs.length) (z2 : zs.length ≤ 3) :
    Okk (Codes_Site.j9 K (a, xf, xp, mr, mp, zs, cs, ss, ds, fs, (), td, tf, (), (), (), (), (), ())) fun r => SiteDrawn r.1 r.2.2.1.Flows ∧ CO l r.2.2.2.at_ := by
  unfold Codes_Site.j9
  refine .some ⟨⟨⟨hA.air, by show ss.length ≤ 64; omega, by show cs.length ≤ 64; omega, by show zs.length ≤ 16; omega, by simp, hS.se, fun i j hi hj => ?_, hC, fun i hi => (hZ i hi).1, fun i hi => ?_⟩, hA, z1, z2, c1, c2, s2, fun i hi => (hZ i hi).2, rfl⟩, h⟩
  · dsimp only at hi ⊢
    rw [hS.ad i hi, hS.ad j (by omega)]; omega
  · have : i = 0 ∨ i = 1 ∨ i = 2 ∨ i = 3 := by simp at hi; omega
    rcases this with rfl | rfl | rfl | rfl <;> simp [rd]
theorem site_5 (hA : AirPre mr mp fs ds xf) {cs : List T.Cond} {Q : _ → Prop} (g4 : _) (fr ho n : Int) (ru : List T.RuleNode) (zs : List T.Zone) (ss : List T.Sensor)
    (H : ∀ zr a, CO l a → zr.length ≤ mr.length → (∀ i, i < zr.length → 0 ≤ rd zr i default ∧ rd zr i default < (mr.length : Int)) → (∀ i, 0 < i → i < zr.length → rd zr (i - 1) default < rd zr i default) → Okk (Codes_Site.j7 K g4 (fr, zr, ho, ru, (), a, n, (mr.length : Int), xf, xp, mr, mp, zs, cs, ss, ds, fs, (), td, tf, (), (), (), (), (), (), l)) Q) :
    ∀ (d i it : Nat) (zr : List Int) (a : Int), i + d = mr.length → d < it → CO l a → zr.length ≤ i → (∀ j, j < zr.length → 0 ≤ rd zr j default ∧ rd zr j default < (i : Int)) → (∀ j, 0 < j → j < zr.length → rd zr (j - 1) default < rd zr j default) →
    Okk (Codes_Site.j5 K g4 it ((i : Int), fr, zr, ho, ru, (), a, n, (mr.length : Int), xf, xp, mr, mp, zs, cs, ss, ds, fs, (), td, tf, (), (), (), (), (), (), l)) Q
  | 0, i, it + 1, zr, a, hi, hit, h, hl, hp, hm => by
    rw [Codes_Site.j5, sel_df (by omega)]
    exact H zr a h (by omega) (fun j hj => by have := hp j hj; omega) hm
  | d + 1, i, it + 1, zr, a, hi, hit, h, hl, hp, hm => by
    have r2 := hA.r2
    have step : ∀ (zr' : List Int) (a : Int), CO l a → zr'.length ≤ i + 1 → (∀ j, j < zr'.length → 0 ≤ rd zr' j default ∧ rd zr' j default < (i : Int) + 1) → (∀ j, 0 < j → j < zr'.length → rd zr' (j - 1) default < rd zr' j default) →
        Okk (Codes_Site.j6 K g4 (Codes_Site.j5 K g4 it) (zr', a, (i : Int), fr, ho, ru, (), n, (mr.length : Int), xf, xp, mr, mp, zs, cs, ss, ds, fs, (), td, tf, (), (), (), (), (), (), l)) Q := by
      intro zr' a h h1 h2 h3
      have ih := site_5 hA g4 fr ho n ru zs ss H d (i + 1) it zr' a (by omega) (by omega) h h1 (fun j hj => by have := h2 j hj; push_cast; omega) h3
      push_cast at ih
      unfold Codes_Site.j6
      dsimp only
      rw [w64_small (by omega) (by omega)]
      exact ih
    rw [Codes_Site.j5, sel_dt (by omega)]
    refine (one_o h (by omega)).bind fun r1 h => .sel (fun _ => ?_) (fun _ => ?_)
    · rw [sel_dt (by simp; omega)]
      refine step _ _ h (by simp; omega) (all_snoc (P := fun z => 0 ≤ z ∧ z < (i : Int) + 1) (fun j hj => by have := hp j hj; omega) (by omega)) (fun j h1 hj => ?_)
      by_cases h2 : j < zr.length
      · rw [rd_snoc_lt h2, rd_snoc_lt (by omega)]; exact hm j h1 h2
      · have : j = zr.length := by simp at hj; omega
        subst this
        rw [rd_snoc_eq, rd_snoc_lt (by omega)]
        exact (hp (zr.length - 1) (by omega)).2
    · exact step _ _ h (by omega) (fun j hj => by have := hp j hj; omega) hm
theorem site_4 (hA : AirPre mr mp fs ds xf) {cs : List T.Cond} {ss : List T.Sensor} (hS : SensPre mr.length fs.length ds.length ss) (s2 : ss.length ≤ 8) (hC : ∀ i, i < cs.length → CondOk ss mr.length (rd cs i default)) (c1 : 1 ≤ cs.length) (c2 : cs.length ≤ 4) : ∀ (it : Nat) (n a : Int) (zs : List T.Zone), 0 ≤ n → n < (it : Int) → CO l a → 1 ≤ (zs.length : Int) + n → (zs.length : Int) + n ≤ 3 →
    (∀ i, i < zs.length → ZoneOk cs.length mr.length (rd zs i default) ∧ (rd zs i default).Hold ≤ 8 ∧ (rd zs i default).Fresh ≤ 1) →
    Okk (Codes_Site.j4 K it (n, a, (mr.length : Int), xf, xp, mr, mp, zs, cs, ss, ds, fs, (), td, tf, (), (), (), (), (), (), l)) fun r => SiteDrawn r.1 r.2.2.1.Flows ∧ CO l r.2.2.2.at_
  | 0, n, a, zs, h0, hn, h, z1, z2, hZ => by omega
  | it + 1, n, a, zs, h0, hn, h, z1, z2, hZ => by
    have hK := K_1000
    have r2 := hA.r2
    rw [Codes_Site.j4]
    refine .seld (fun hq => ?_) (fun hq => site_9 hA h hS s2 hC c1 c2 hZ (by omega) (by omega))
    refine (show Okk (Codes_Rule ⟨l, a⟩ (cs.length : Int) 2) _ from rule_o c1 (by omega) K 2 a (by omega) (by omega) h).bind fun r1 ⟨hR, h⟩ => (next_o h (by omega)).bind fun s2' ⟨a2, b2, h⟩ => (next_o h (by omega)).bind fun s3 ⟨a3, b3, h⟩ => ?_
    refine site_5 hA (Codes_Site.j4 K it) s3.1 s2'.1 n r1.1 zs ss (fun zr a h g1 g2 g3 => ?_) mr.length 0 K [] _ (by omega) (by omega) h (by simp) (fun j hj => by simp at hj) (fun j h1 hj => by simp at hj)
    unfold Codes_Site.j7 Codes_Site.j8
    dsimp only
    rw [sel_dt (by simp; omega), w64_small (by omega) (by omega)]
    refine site_4 hA hS s2 hC c1 c2 it (n - 1) a _ (by omega) (by omega) h (by simp; omega) (by simp; omega) (all_snoc (P := fun (z : T.Zone) => ZoneOk cs.length mr.length z ∧ z.Hold ≤ 8 ∧ z.Fresh ≤ 1) hZ ⟨⟨hR.ok (by omega), a2, by dsimp only; omega, a3, by dsimp only; omega, by dsimp only; omega, g2, g3⟩, by dsimp only; omega, by dsimp only; omega⟩)
theorem site_3 (hA : AirPre mr mp fs ds xf) {ss : List T.Sensor} (hS : SensPre mr.length fs.length ds.length ss) (s1 : 1 ≤ ss.length) (s2 : ss.length ≤ 8) : ∀ (it : Nat) (n a : Int) (cs : List T.Cond), 0 ≤ n → n < (it : Int) → CO l a → 1 ≤ (cs.length : Int) + n → (cs.length : Int) + n ≤ 4 →
    (∀ i, i < cs.length → CondOk ss mr.length (rd cs i default)) →
    Okk (Codes_Site.j3 K it (n, a, (mr.length : Int), xf, xp, mr, mp, [], [], cs, ss, ds, fs, (), td, tf, (), (), (), (), (), (), l)) fun r => SiteDrawn r.1 r.2.2.1.Flows ∧ CO l r.2.2.2.at_
  | 0, n, a, cs, h0, hn, h, c1, c2, hC => by omega
  | it + 1, n, a, cs, h0, hn, h, c1, c2, hC => by
    have hK := K_1000
    have r1 := hA.r1
    have r2 := hA.r2
    rw [Codes_Site.j3]
    refine .seld (fun hq => ?_) (fun hq => ?_)
    · refine (cond_o h (s := { Air := { Mine := { Places := mp, Roads := mr }, Fans := fs, Doors := ds }, Sensors := ss, Conds := cs, Zones := [], Persons := [] }) s1 r1 (by show ss.length ≤ 1000; omega) (by show mr.length ≤ 1000; omega)).bind fun r ⟨hc, h⟩ => ?_
      rw [sel_dt (by simp; omega), w64_small (by omega) (by omega)]
      exact site_3 hA hS s1 s2 it (n - 1) _ _ (by omega) (by omega) h (by simp; omega) (by simp; omega) (all_snoc (P := CondOk ss mr.length) hC hc)
    · unfold Codes_Site.j10
      refine (range_o h (by omega) (by omega) (by omega)).bind fun r0 ⟨g0, b0, h⟩ => ?_
      exact site_4 hA hS s2 hC (by omega) (by omega) K r0.1 _ [] (by omega) (by omega) h (by simp; omega) (by simp; omega) (fun i hi => by simp at hi)
theorem site_11 (hA : AirPre mr mp fs ds xf) {ss : List T.Sensor} (hS : SensPre mr.length fs.length ds.length ss) (s1 : 1 ≤ ss.length) (s2 : ss.length ≤ 8) {a : Int} (h : CO l a) :
    Okk (Codes_Site.j11 K (a, (mr.length : Int), xf, xp, mr, mp, [], [], [], ss, ds, fs, (), td, tf, (), (), (), (), (), (), l)) fun r => SiteDrawn r.1 r.2.2.1.Flows ∧ CO l r.2.2.2.at_ := by
  have hK := K_1000
  unfold Codes_Site.j11
  refine (range_o h (by omega) (by omega) (by omega)).bind fun r0 ⟨g0, b0, h⟩ => ?_
  exact site_3 hA hS s1 s2 K r0.1 _ [] (by omega) (by omega) h (by simp; omega) (by simp; omega) (fun i hi => by simp at hi)
theorem site_2 (hA : AirPre mr mp fs ds xf) : ∀ (d i it : Nat) (a : Int) (ss : List T.Sensor), i + d = ds.length → d < it → CO l a → SensPre mr.length fs.length ds.length ss → 1 ≤ ss.length → ss.length + d ≤ 8 →
    Okk (Codes_Site.j2 K it ((i : Int), a, (mr.length : Int), xf, xp, mr, mp, [], [], [], ss, ds, fs, (), td, tf, ds, (), (), (), (), (), (), (), l)) fun r => SiteDrawn r.1 r.2.2.1.Flows ∧ CO l r.2.2.2.at_
  | 0, i, it + 1, a, ss, hi, hit, h, hS, s1, s2 => by
    rw [Codes_Site.j2, sel_df (by omega)]
    exact site_11 hA hS s1 (by omega) h
  | d + 1, i, it + 1, a, ss, hi, hit, h, hS, s1, s2 => by
    have dl := hA.dl
    rw [Codes_Site.j2, sel_dt (by omega)]
    refine (sensor_o (R := mr.length) (F := fs.length) (D := ds.length) h (by omega) (by omega) (by omega) (by omega) (by omega) (fun h => by omega) (fun h => by omega) (fun _ => by omega)).bind fun r ⟨hx, ha, h⟩ => ?_
    rw [sel_dt (by simp; omega), w64_small (by omega) (by omega)]
    have ih := site_2 hA d (i + 1) it r.2.at_ (ss ++ [r.1]) (by omega) (by omega) h (hS.snoc hx ha) (by simp) (by simp; omega)
    push_cast at ih
    exact ih
theorem site_1 (hA : AirPre mr mp fs ds xf) : ∀ (d i it : Nat) (a : Int) (ss : List T.Sensor), i + d = fs.length → d < it → CO l a → SensPre mr.length fs.length ds.length ss → 1 ≤ ss.length → ss.length + d ≤ 6 →
    Okk (Codes_Site.j1 K it ((i : Int), a, (mr.length : Int), xf, xp, mr, mp, [], [], [], ss, ds, fs, (), td, tf, ds, fs, (), (), (), (), (), (), (), l)) fun r => SiteDrawn r.1 r.2.2.1.Flows ∧ CO l r.2.2.2.at_
  | 0, i, it + 1, a, ss, hi, hit, h, hS, s1, s2 => by
    have hK := K_1000
    have dl := hA.dl
    rw [Codes_Site.j1, sel_df (by omega)]
    unfold Codes_Site.j12
    exact site_2 hA ds.length 0 K a ss (by omega) (by omega) h hS s1 (by omega)
  | d + 1, i, it + 1, a, ss, hi, hit, h, hS, s1, s2 => by
    have dl := hA.fl
    rw [Codes_Site.j1, sel_dt (by omega)]
    refine (sensor_o (R := mr.length) (F := fs.length) (D := ds.length) h (by omega) (by omega) (by omega) (by omega) (by omega) (fun h => by omega) (fun _ => by omega) (fun h => by omega)).bind fun r ⟨hx, ha, h⟩ => ?_
    rw [sel_dt (by simp; omega), w64_small (by omega) (by omega)]
    have ih := site_1 hA d (i + 1) it r.2.at_ (ss ++ [r.1]) (by omega) (by omega) h (hS.snoc hx ha) (by simp) (by simp; omega)
    push_cast at ih
    exact ih
theorem site_0 (hA : AirPre mr mp fs ds xf) : ∀ (it : Nat) (n a : Int) (ss : List T.Sensor), 0 ≤ n → n < (it : Int) → CO l a → SensPre mr.length fs.length ds.length ss → 1 ≤ (ss.length : Int) + n → (ss.length : Int) + n ≤ 4 →
    Okk (Codes_Site.j0 K it (n, a, (mr.length : Int), xf, xp, mr, mp, [], [], [], ss, ds, fs, (), td, tf, ds, fs, (), (), (), (), (), (), (), l)) fun r => SiteDrawn r.1 r.2.2.1.Flows ∧ CO l r.2.2.2.at_
  | 0, n, a, ss, h0, hn, h, hS, s1, s2 => by omega
  | it + 1, n, a, ss, h0, hn, h, hS, s1, s2 => by
    have hK := K_1000
    have fl := hA.fl
    have r1 := hA.r1
    rw [Codes_Site.j0]
    refine .seld (fun hq => ?_) (fun hq => ?_)
    · refine (range_o h (by omega) (by omega) (by omega)).bind fun q1 ⟨g1, b1, h⟩ => (next_o h (by omega)).bind fun q2 ⟨g2, b2, h⟩ => ?_
      refine (sensor_o (R := mr.length) (F := fs.length) (D := ds.length) h (by omega) (by omega) (by omega) (by omega) g2 (fun _ _ => b2) (fun h => by omega) (fun h => by omega)).bind fun r ⟨hx, ha, h⟩ => ?_
      rw [sel_dt (by simp; omega), w64_small (by omega) (by omega)]
      exact site_0 hA it (n - 1) _ _ (by omega) (by omega) h (hS.snoc hx ha) (by simp; omega) (by simp; omega)
    · unfold Codes_Site.j13
      exact site_1 hA fs.length 0 K a ss (by omega) (by omega) h hS (by omega) (by omega)
theorem site_14 (hA : AirPre mr mp fs ds xf) {a : Int} (h : CO l a) : Okk (Codes_Site.j14 K (xf, xp, mr, mp, [], [], [], [], ds, fs, (), td, tf, ds, fs, (), (), (), a, (), (), (), (), l)) fun r => SiteDrawn r.1 r.2.2.1.Flows ∧ CO l r.2.2.2.at_ := by
  have hK := K_1000
  unfold Codes_Site.j14
  refine (range_o h (by omega) (by omega) (by omega)).bind fun r0 ⟨g0, b0, h⟩ => ?_
  exact site_0 hA K r0.1 _ [] (by omega) (by omega) h ⟨fun i hi => by simp at hi, fun i hi => by simp at hi⟩ (by simp; omega) (by simp; omega)
end
theorem site_o {l : List Int} {a : Int} (h : CO l a) : Okk (Codes_Site ⟨l, a⟩) fun r => SiteDrawn r.1 r.2.2.1.Flows ∧ CO l r.2.2.2.at_ := by
  unfold Codes_Site Codes_Site.f
  refine (made_o h).bind fun r0 ⟨hM, h⟩ => .sel (fun h0 => ?_) (fun h0 => ?_)
  · have h0 : r0.1.Mine.Roads.length = 0 := by have : (r0.1.Mine.Roads.length : Int) = 0 := by simpa using h0
                                               omega
    have p1 := hM.pl
    have p2 := hM.pl2
    have hf : r0.1.Fans = [] := by
      cases hq : r0.1.Fans with
      | nil => rfl
      | cons f fs => have := (hM.air.f 0 (by rw [hq]; simp)).r0; have := (hM.air.f 0 (by rw [hq]; simp)).r1; omega
    have hd : r0.1.Doors = [] := by
      cases hq : r0.1.Doors with
      | nil => rfl
      | cons f fs => have := (hM.air.d 0 (by rw [hq]; simp)).r0; have := (hM.air.d 0 (by rw [hq]; simp)).r1; omega
    have xp := hM.xp
    rw [sel_dt (by simp; omega), sel_dt (by simp; omega), hf, hd]
    have el : w64 (((r0.1.Mine.Places ++ [({ Height := 0, Surface := Bool.true } : T.Place)]).length : Int) - 1) = (r0.1.Mine.Places.length : Int) := by
      rw [w64_small (by simp only [List.length_append, List.length_cons, List.length_nil]; omega) (by simp only [List.length_append, List.length_cons, List.length_nil]; omega)]; simp
    rw [el]
    refine site_14 ⟨⟨⟨by show (r0.1.Mine.Places ++ _).length ≤ 64; simp; omega, by simp, all_snoc (P := fun (p : T.Place) => -10000 ≤ p.Height ∧ p.Height ≤ 10000) hM.air.mine.p (by dsimp only; omega), fun i hi => ?_⟩, by simp, fun i hi => by simp at hi, by simp, fun i hi => by simp at hi⟩, by simp, by simp, by simp, by simp, by simp; omega, rfl, fun i hi => ?_, fun i hi => ?_⟩ h
    · have : i = 0 := by simp at hi; omega
      subst this
      refine ⟨?_, ?_, ?_, ?_, ?_, ?_, ?_, ?_, ?_, ?_, ?_, ?_, ?_, ?_, ?_⟩ <;> simp [rd] <;> omega
    · have : i = 0 := by simp at hi; omega
      subst this; simp [rd]
    · have : i = 0 := by simp at hi; omega
      subst this; simp [rd]
  · have h0 : ¬ (r0.1.Mine.Roads.length : Int) = 0 := by simpa using h0
    have hA : AirPre r0.1.Mine.Roads r0.1.Mine.Places r0.1.Fans r0.1.Doors r0.2.2.1.Flows := ⟨hM.air, by omega, hM.rl, hM.fl, hM.dl, by have := hM.pl2; omega, hM.xl, hM.x, fun i hi => ⟨(hM.ro i hi).l1, (hM.ro i hi).a1⟩⟩
    exact site_14 hA h
end Go.Proofs.Ytlhknehkcflkgaa

/- When a zone is ready: the program and the reference answer alike. -/
namespace Go.Proofs.Ytlhknehkcflkgaa
open Go Ab
/-- what surely flows -/
def sureP (f : T.Span) : Int := if f.Low > f.High then 0 else if f.Low > 0 then f.Low else if f.High < 0 then -f.High else 0
def needP (r : T.Road) (fresh : Int) : Int := 1000 * r.Length * r.Area * fresh
def chgP (r : T.Road) (f : T.Span) (fresh sec : Int) : Bool := decide (needP r fresh = 0 ∨ 0 < sureP f ∧ needP r fresh ≤ sureP f * sec)
structure FlowB (f : T.Span) : Prop where
  l : -1125899906842624 ≤ f.Low
  h : f.High ≤ 1125899906842624
theorem need_b {n : Nat} {r : T.Road} (h : RoadOk n r) {fresh : Int} (h0 : 0 ≤ fresh) (h1 : fresh ≤ 100) : 0 ≤ needP r fresh ∧ needP r fresh ≤ 10000000000000 ∧ w64 (w64 (w64 (1000 * r.Length) * r.Area) * fresh) = needP r fresh := by
  have l0 := h.l0; have l1 := h.l1; have a0 := h.a0; have a1 := h.a1
  have n1 : 0 ≤ 1000 * r.Length * r.Area := Int.mul_nonneg (by omega) (by omega)
  have n2 : 1000 * r.Length * r.Area ≤ 100000000 * 1000 := Int.mul_le_mul (by omega) a1 (by omega) (by omega)
  have n3 : 0 ≤ 1000 * r.Length * r.Area * fresh := Int.mul_nonneg n1 h0
  have n4 : 1000 * r.Length * r.Area * fresh ≤ 100000000000 * 100 := Int.mul_le_mul (by omega) h1 h0 (by omega)
  unfold needP
  refine ⟨n3, by omega, ?_⟩
  rw [w64_small (n := 1000 * r.Length) (by omega) (by omega), w64_small (n := 1000 * r.Length * r.Area) (by omega) (by omega), w64_small (by omega) (by omega)]
theorem ceil_iff {a q s : Int} (hs : 1 ≤ s) (ha : 0 ≤ a) : (Int.tdiv (a + s - 1) s ≤ q) ↔ a ≤ q * s := by
  rw [Int.tdiv_eq_ediv_of_nonneg (by omega)]
  constructor
  · intro h
    have := Int.lt_mul_ediv_self_add (x := a + s - 1) (show 0 < s by omega)
    have h2 : s * ((a + s - 1) / s) ≤ s * q := Int.mul_le_mul_of_nonneg_left h (by omega)
    rw [Int.mul_comm q s]; omega
  · intro h
    have : (a + s - 1) / s < q + 1 := by rw [Int.ediv_lt_iff_lt_mul (by omega), Int.add_mul]; omega
    omega
theorem dir_eq (f : T.Span) : airflow_Direction f = some (if f.Low > f.High then 0 else if f.Low > 0 then 1 else if f.High < 0 then -1 else 0) := by
  unfold airflow_Direction airflow_Direction.f
  by_cases h1 : f.Low > f.High
  · rw [sel_dt h1, if_pos h1]
  · rw [sel_df h1, if_neg h1]
    by_cases h2 : f.Low > 0
    · rw [sel_dt h2, if_pos h2]
    · rw [sel_df h2, if_neg h2]
      by_cases h3 : f.High < 0
      · rw [sel_dt h3, if_pos h3]
      · rw [sel_df h3, if_neg h3]
theorem rdir_eq (f : T.Span) : ref13_Direction f = some (if f.Low > f.High then 0 else if f.Low > 0 then 1 else if f.High < 0 then -1 else 0) := by
  unfold ref13_Direction ref13_Direction.f
  by_cases h1 : f.Low > f.High
  · rw [sel_dt h1, if_pos h1]
  · rw [sel_df h1, if_neg h1]
    by_cases h2 : f.Low > 0
    · rw [sel_dt h2, if_pos h2]
    · rw [sel_df h2, if_neg h2]
      by_cases h3 : f.High < 0
      · rw [sel_dt h3, if_pos h3]
      · rw [sel_df h3, if_neg h3]
theorem tdiv_b {a s : Int} (hs : 1 ≤ s) (ha : 0 ≤ a) : 0 ≤ Int.tdiv a s ∧ Int.tdiv a s ≤ a := by
  rw [Int.tdiv_eq_ediv_of_nonneg ha]
  exact ⟨Int.ediv_nonneg ha (by omega), Int.ediv_le_self s ha⟩
theorem changed_eq {n : Nat} {r : T.Road} (h : RoadOk n r) {f : T.Span} (hf : FlowB f) {fresh sec : Int} (h0 : 0 ≤ fresh) (h1 : fresh ≤ 100) (s0 : 0 ≤ sec) (s1 : sec ≤ 10000000000) : restore_changed r f fresh sec = some (chgP r f fresh sec) := by
  obtain ⟨n0, n1, n2⟩ := need_b h h0 h1
  have fl := hf.l; have fh := hf.h
  unfold restore_changed restore_changed.f chgP
  rw [n2]
  generalize needP r fresh = nd at *
  by_cases hz : nd = 0
  · rw [sel_eqt hz, decide_eq_true (.inl hz)]
  · rw [sel_eqf hz]
    by_cases hs : sec = 0
    · rw [sel_eqt hs, decide_eq_false (by rw [hs]; intro hh; rcases hh with hh | ⟨_, hh⟩ <;> omega)]
    · rw [sel_eqf hs, sel_net hs, dir_eq, obind_some]
      rw [w64_small (n := nd + sec) (by omega) (by omega), w64_small (n := nd + sec - 1) (by omega) (by omega)]
      have tb := tdiv_b (a := nd + sec - 1) (s := sec) (by omega) (by omega)
      rw [w64_small (n := Int.tdiv (nd + sec - 1) sec) (by omega) (by omega), w64_small (n := 0 - Int.tdiv (nd + sec - 1) sec) (by omega) (by omega)]
      unfold sureP
      by_cases h1 : f.Low > f.High
      · rw [if_pos h1, if_pos h1, sel_eqf (by omega), sel_eqf (by omega), decide_eq_false (by omega)]
      · rw [if_neg h1, if_neg h1]
        by_cases h2 : f.Low > 0
        · rw [if_pos h2, if_pos h2, sel_eqt rfl]
          congr 1
          rw [decide_eq_decide]
          have := ceil_iff (a := nd) (q := f.Low) (s := sec) (by omega) n0
          exact ⟨fun g => .inr ⟨h2, this.1 g⟩, fun g => this.2 (by rcases g with g | g; · exact absurd g hz
                                                                   · exact g.2)⟩
        · rw [if_neg h2, if_neg h2]
          by_cases h3 : f.High < 0
          · rw [if_pos h3, if_pos h3, sel_eqf (by omega), sel_eqt rfl]
            congr 1
            rw [decide_eq_decide]
            have := ceil_iff (a := nd) (q := -f.High) (s := sec) (by omega) n0
            exact ⟨fun g => .inr ⟨by omega, this.1 (by omega)⟩, fun g => by
              have := this.2 (by rcases g with g | g; · exact absurd g hz
                                 · exact g.2)
              omega⟩
          · rw [if_neg h3, if_neg h3, sel_eqf (by omega), sel_eqf (by omega), decide_eq_false (by omega)]
/-- the roads of a zone, from one on -/
def roadsP (rs : List T.Road) (fl : List T.Span) (fresh sec : Int) (zr : List Int) : Nat → Nat → Bool
  | 0, _ => true
  | d + 1, i => chgP (rd rs (rd zr i default).toNat default) (rd fl (rd zr i default).toNat default) fresh sec && roadsP rs fl fresh sec zr d (i + 1)
section
variable {rs : List T.Road} {fl : List T.Span} {fresh : Int} {zr : List Int} {np : Nat}
theorem ready_loop (hr : ∀ i, i < rs.length → RoadOk np (rd rs i default)) (hfl : fl.length = rs.length) (hf : ∀ i, i < fl.length → FlowB (rd fl i default)) (h0 : 0 ≤ fresh) (h1 : fresh ≤ 100) (hz : ∀ i, i < zr.length → 0 ≤ rd zr i default ∧ rd zr i default < (rs.length : Int)) (hzl : zr.length ≤ 1000) {cl t : Int} (c0 : 0 ≤ cl) (c1 : cl ≤ t) (c2 : t ≤ 2147483648) : ∀ (d i it : Nat), i + d = zr.length → d < it →
    restore_ready.j0 K it ((i : Int), (zr.length : Int), zr, fresh, cl, (), (), (), rs, fl, t) = some (if roadsP rs fl fresh (t - cl) zr d i then 0 else 20)
  | 0, i, it + 1, hi, hit => by
    rw [restore_ready.j0, sel_df (by omega)]
    rfl
  | d + 1, i, it + 1, hi, hit => by
    have g := hz i (by omega)
    have ih := ready_loop hr hfl hf h0 h1 hz hzl c0 c1 c2 d (i + 1) it (by omega) (by omega)
    push_cast at ih
    have e := changed_eq (hr (rd zr i default).toNat (by omega)) (hf (rd zr i default).toNat (by omega)) h0 h1 (sec := t - cl) (by omega) (by omega)
    rw [restore_ready.j0, Int.toNat_natCast]
    simp (disch := omega) only [sel_dt, w64_small]
    rw [e, obind_some, ih]
    rw [roadsP]
    cases chgP (rd rs (rd zr i default).toNat default) (rd fl (rd zr i default).toNat default) fresh (t - cl) <;> rfl
theorem sure_eq {f : T.Span} (hf : FlowB f) : ref21_sure f = some (sureP f) := by
  have fl := hf.l; have fh := hf.h
  unfold ref21_sure ref21_sure.f sureP
  rw [rdir_eq, obind_some]
  by_cases h1 : f.Low > f.High
  · rw [if_pos h1, if_pos h1, sel_eqf (by omega), sel_eqf (by omega)]
  · rw [if_neg h1, if_neg h1]
    by_cases h2 : f.Low > 0
    · rw [if_pos h2, if_pos h2, sel_eqt rfl]
    · rw [if_neg h2, if_neg h2]
      by_cases h3 : f.High < 0
      · rw [if_pos h3, if_pos h3, sel_eqf (by omega), sel_eqt rfl, w64_small (by omega) (by omega)]
        congr 1; omega
      · rw [if_neg h3, if_neg h3, sel_eqf (by omega), sel_eqf (by omega)]
theorem sureP_b {f : T.Span} (hf : FlowB f) : 0 ≤ sureP f ∧ sureP f ≤ 1125899906842624 := by
  have fl := hf.l; have fh := hf.h
  unfold sureP
  split
  · omega
  · split
    · omega
    · split <;> omega
theorem rready_loop (hr : ∀ i, i < rs.length → RoadOk np (rd rs i default)) (hfl : fl.length = rs.length) (hf : ∀ i, i < fl.length → FlowB (rd fl i default)) (h0 : 0 ≤ fresh) (h1 : fresh ≤ 100) (hz : ∀ i, i < zr.length → 0 ≤ rd zr i default ∧ rd zr i default < (rs.length : Int)) (hzl : zr.length ≤ 1000) {cl t : Int} (c0 : 0 ≤ cl) (c1 : cl ≤ t) (c2 : t ≤ 2147483648) : ∀ (d i it : Nat), i + d = zr.length → d < it →
    ref21_ready.j0 K it ((i : Int), cl, fresh, zr, (), (), rs, fl, t) = some (if roadsP rs fl fresh (t - cl) zr d i then 0 else 20)
  | 0, i, it + 1, hi, hit => by
    rw [ref21_ready.j0, sel_df (by omega)]
    rfl
  | d + 1, i, it + 1, hi, hit => by
    have g := hz i (by omega)
    have ih := rready_loop hr hfl hf h0 h1 hz hzl c0 c1 c2 d (i + 1) it (by omega) (by omega)
    push_cast at ih
    have hR := hr (rd zr i default).toNat (by omega)
    have hF := hf (rd zr i default).toNat (by omega)
    obtain ⟨n0, n1, n2⟩ := need_b hR h0 h1
    have sb := sureP_b hF
    have cont : ref21_ready.j1 K (ref21_ready.j0 K it) ((i : Int), cl, fresh, zr, (), (), rs, fl, t) = some (if roadsP rs fl fresh (t - cl) zr d (i + 1) then 0 else 20) := by
      unfold ref21_ready.j1
      dsimp only
      rw [w64_small (by omega) (by omega)]
      exact ih
    rw [ref21_ready.j0, Int.toNat_natCast]
    simp (disch := omega) only [sel_dt]
    rw [sure_eq hF, obind_some, n2, cont, w64_small (n := t - cl) (by omega) (by omega)]
    rw [roadsP]
    generalize roadsP rs fl fresh (t - cl) zr d (i + 1) = tl
    unfold chgP
    generalize needP (rd rs (rd zr i default).toNat default) fresh = nd at *
    generalize sureP (rd fl (rd zr i default).toNat default) = s at *
    by_cases hz : nd = 0
    · rw [sel_eqt hz, decide_eq_true (.inl hz)]; rfl
    · rw [sel_eqf hz]
      by_cases hs : s = 0
      · rw [sel_eqt hs, decide_eq_false (by omega)]; rfl
      · rw [sel_eqf hs, sel_net hs, w64_small (n := nd - 1) (by omega) (by omega)]
        have tb := tdiv_b (a := nd - 1) (s := s) (by omega) (by omega)
        rw [w64_small (n := Int.tdiv (nd - 1) s) (by omega) (by omega)]
        have key : (Int.tdiv (nd - 1) s ≥ t - cl) ↔ ¬ (nd ≤ s * (t - cl)) := by
          rw [Int.tdiv_eq_ediv_of_nonneg (by omega), ge_iff_le, Int.le_ediv_iff_mul_le (by omega), Int.mul_comm s]
          omega
        by_cases hk : nd ≤ s * (t - cl)
        · rw [sel_df (fun g => key.1 g hk), decide_eq_true (.inr ⟨by omega, hk⟩)]; rfl
        · rw [sel_dt (key.2 hk), decide_eq_false (by omega)]; rfl
end
/-- why a zone is not ready -/
def readyP (s : T.Site) (c : List T.Cut) (fl : List T.Span) (zone t : Int) : Int :=
  if zone < 0 then 17 else if zone ≥ (c.length : Int) then 17 else if (rd c zone.toNat default).Off = false then 10 else
  if (rd c zone.toNat default).Clear < 0 then 20 else if (rd c zone.toNat default).Clear > t then 20 else if t - (rd c zone.toNat default).Clear < (rd s.Zones zone.toNat default).Hold then 20 else
  if roadsP s.Air.Mine.Roads fl (rd s.Zones zone.toNat default).Fresh (t - (rd c zone.toNat default).Clear) (rd s.Zones zone.toNat default).Roads (rd s.Zones zone.toNat default).Roads.length 0 then 0 else 20
section
variable {s : T.Site} {c : List T.Cut} {fl : List T.Span} {zone t : Int}
theorem ready_eq (h : SiteOk s) (hc : c.length = s.Zones.length) (hfl : fl.length = s.Air.Mine.Roads.length) (hf : ∀ i, i < fl.length → FlowB (rd fl i default)) (t1 : t ≤ 2147483648) : restore_ready s c fl zone t = some (readyP s c fl zone t) := by
  have hK := K_1000
  have zl := h.zl
  unfold restore_ready restore_ready.f readyP
  by_cases h1 : zone < 0
  · rw [sel_dt h1, if_pos h1]
  · rw [sel_df h1, if_neg h1]
    by_cases h2 : zone ≥ (c.length : Int)
    · rw [sel_dt h2, if_pos h2]
    · rw [sel_df h2, if_neg h2]
      simp (disch := omega) only [sel_dt]
      obtain ⟨_, z2, z3, z4, z5, z6, z7, z8⟩ := h.z zone.toNat (by omega)
      by_cases h3 : (rd c zone.toNat default).Off = false
      · rw [h3, if_pos rfl]; rfl
      · have h3' : (rd c zone.toNat default).Off = true := by simpa using h3
        rw [if_neg h3, h3', Bool.not_true, sel_f]
        by_cases h4 : (rd c zone.toNat default).Clear < 0
        · rw [sel_dt h4, if_pos h4]
        · rw [sel_df h4, if_neg h4]
          by_cases h5 : (rd c zone.toNat default).Clear > t
          · rw [sel_dt h5, if_pos h5]
          · rw [sel_df h5, if_neg h5, w64_small (by omega) (by omega)]
            by_cases h6 : t - (rd c zone.toNat default).Clear < (rd s.Zones zone.toNat default).Hold
            · rw [sel_dt h6, if_pos h6]
            · rw [sel_df h6, if_neg h6]
              exact ready_loop h.air.mine.r hfl hf z4 z5 z7 (by omega) (by omega) (by omega) t1 _ 0 K (Nat.zero_add _) (by omega)
theorem rready_eq (h : SiteOk s) (hc : c.length = s.Zones.length) (hfl : fl.length = s.Air.Mine.Roads.length) (hf : ∀ i, i < fl.length → FlowB (rd fl i default)) (t1 : t ≤ 2147483648) : ref21_ready s c fl zone t = some (readyP s c fl zone t) := by
  have hK := K_1000
  have zl := h.zl
  unfold ref21_ready ref21_ready.f readyP
  by_cases h1 : zone < 0
  · rw [sel_dt h1, if_pos h1]
  · rw [sel_df h1, if_neg h1]
    by_cases h2 : zone ≥ (c.length : Int)
    · rw [sel_dt h2, if_pos h2]
    · rw [sel_df h2, if_neg h2]
      simp (disch := omega) only [sel_dt]
      obtain ⟨_, z2, z3, z4, z5, z6, z7, z8⟩ := h.z zone.toNat (by omega)
      by_cases h3 : (rd c zone.toNat default).Off = false
      · rw [h3, if_pos rfl]; rfl
      · have h3' : (rd c zone.toNat default).Off = true := by simpa using h3
        rw [if_neg h3, h3', Bool.not_true, sel_f]
        by_cases h4 : (rd c zone.toNat default).Clear < 0
        · rw [sel_dt h4, if_pos h4]
        · rw [sel_df h4, if_neg h4]
          by_cases h5 : (rd c zone.toNat default).Clear > t
          · rw [sel_dt h5, if_pos h5]
          · rw [sel_df h5, if_neg h5, w64_small (by omega) (by omega)]
            by_cases h6 : t - (rd c zone.toNat default).Clear < (rd s.Zones zone.toNat default).Hold
            · rw [sel_dt h6, if_pos h6]
            · rw [sel_df h6, if_neg h6]
              exact rready_loop h.air.mine.r hfl hf z4 z5 z7 (by omega) (by omega) (by omega) t1 _ 0 K (Nat.zero_add _) (by omega)
/-- the errors ahead of all others -/
def checkP (s : T.Site) (c : List T.Cut) (fl : List T.Span) (t : Int) : Int :=
  if c.length ≠ s.Zones.length then 11 else if fl.length ≠ s.Air.Mine.Roads.length then 11 else if t < 0 then 8 else if t > 2147483648 then 8 else 0
theorem check_eq (h : SiteOk s) : restore_check s c fl t = some (checkP s c fl t) := by
  unfold restore_check restore_check.f checkP
  rw [cutoff_ok h, obind_some, sel_nef rfl]
  by_cases h1 : c.length ≠ s.Zones.length
  · rw [if_pos h1, sel_net (by omega)]
  · rw [if_neg h1, sel_nef (by omega)]
    by_cases h2 : fl.length ≠ s.Air.Mine.Roads.length
    · rw [if_pos h2, sel_net (by omega)]
    · rw [if_neg h2, sel_nef (by omega)]
      by_cases h3 : t < 0
      · rw [if_pos h3, sel_dt h3]
      · rw [if_neg h3, sel_df h3]
        by_cases h4 : t > 2147483648
        · rw [if_pos h4, sel_dt h4]
        · rw [if_neg h4, sel_df h4]
theorem rcheck_eq (h : SiteOk s) : ref21_check s c fl t = some (checkP s c fl t) := by
  unfold ref21_check ref21_check.f checkP
  rw [rcutoff_ok h, obind_some, sel_nef rfl]
  by_cases h1 : c.length ≠ s.Zones.length
  · rw [if_pos h1, sel_net (by omega)]
  · rw [if_neg h1, sel_nef (by omega)]
    by_cases h2 : fl.length ≠ s.Air.Mine.Roads.length
    · rw [if_pos h2, sel_net (by omega)]
    · rw [if_neg h2, sel_nef (by omega)]
      by_cases h3 : t < 0
      · rw [if_pos h3, sel_dt h3]
      · rw [if_neg h3, sel_df h3]
        by_cases h4 : t > 2147483648
        · rw [if_pos h4, sel_dt h4]
        · rw [if_neg h4, sel_df h4]
theorem checkP_0 (h : checkP s c fl t = 0) : c.length = s.Zones.length ∧ fl.length = s.Air.Mine.Roads.length ∧ 0 ≤ t ∧ t ≤ 2147483648 := by
  unfold checkP at h
  split at h
  · omega
  · split at h
    · omega
    · split at h
      · omega
      · split at h <;> omega
def ReadyP (s : T.Site) (c : List T.Cut) (fl : List T.Span) (zone t : Int) : Int := if checkP s c fl t = 0 then readyP s c fl zone t else checkP s c fl t
theorem Ready_eq (h : SiteOk s) (hf : ∀ i, i < fl.length → FlowB (rd fl i default)) : restore_Ready s c fl zone t = some (ReadyP s c fl zone t) := by
  unfold restore_Ready restore_Ready.f ReadyP
  rw [check_eq h, obind_some]
  by_cases h0 : checkP s c fl t = 0
  · obtain ⟨c1, c2, c3, c4⟩ := checkP_0 h0
    rw [sel_nef h0, if_pos h0, ready_eq h c1 c2 hf c4, obind_some]
  · rw [sel_net h0, if_neg h0]
theorem rReady_eq (h : SiteOk s) (hf : ∀ i, i < fl.length → FlowB (rd fl i default)) : ref21_Ready s c fl zone t = some (ReadyP s c fl zone t) := by
  unfold ref21_Ready ref21_Ready.f ReadyP
  rw [rcheck_eq h, obind_some]
  by_cases h0 : checkP s c fl t = 0
  · obtain ⟨c1, c2, c3, c4⟩ := checkP_0 h0
    rw [sel_nef h0, if_pos h0, rready_eq h c1 c2 hf c4, obind_some]
  · rw [sel_net h0, if_neg h0]
end
end Go.Proofs.Ytlhknehkcflkgaa

/- The scene of the laws of restoring. -/
namespace Go.Proofs.Ytlhknehkcflkgaa
open Go Ab
/-- a switch, the i-th one, as it is drawn -/
structure SwitchDrawn (i : Nat) (w : T.Switch) : Prop where
  a0 : -1 ≤ w.Above
  a1 : w.Above < (i : Int)
  s : w.Since = 0
  h0 : -1 ≤ w.Shown
  h1 : w.Shown ≤ 1
  l : w.Late = false
structure FeedDrawn (z : Nat) (f : T.Feeder) : Prop where
  s1 : 1 ≤ f.Switches.length
  s2 : f.Switches.length ≤ 8
  s : ∀ i, i < f.Switches.length → SwitchDrawn i (rd f.Switches i default)
  zl : f.Zones.length = z
  z : ∀ i, i < f.Zones.length → 0 ≤ rd f.Zones i default ∧ rd f.Zones i default < (f.Switches.length : Int)
  d : ∀ i j, i < j → j < f.Zones.length → rd f.Zones i default ≠ rd f.Zones j default
  r1 : 1 ≤ f.Reply
  r2 : f.Reply ≤ 9
/-- how many are free -/
def nfree (xs : List Bool) : Nat := (xs.filter (! ·)).length
theorem nfree_set {xs : List Bool} {i : Nat} (h : i < xs.length) (hf : rd xs i default = false) : nfree (xs.set i true) + 1 = nfree xs := by
  induction xs generalizing i with
  | nil => simp at h
  | cons x xs ih =>
    cases i with
    | zero =>
      have : x = false := hf
      subst this
      simp [nfree]
    | succ i =>
      have := ih (by simpa using h) hf
      cases x <;> simp [nfree] at this ⊢ <;> omega
theorem nfree_repl {n : Nat} : nfree (List.replicate n false) = n := by
  induction n with
  | zero => rfl
  | succ n ih => simp [nfree, List.replicate_succ] at ih ⊢
theorem nfree_pos {xs : List Bool} (h : 0 < nfree xs) : ∃ i, i < xs.length ∧ rd xs i default = false := by
  induction xs with
  | nil => simp [nfree] at h
  | cons x xs ih =>
    cases x
    · exact ⟨0, by simp, rfl⟩
    · obtain ⟨i, h1, h2⟩ := ih (by simpa [nfree] using h)
      exact ⟨i + 1, by simp; omega, h2⟩
section
variable {l : List Int} {z : Nat} {sw : List T.Switch} {rep : Int}
theorem probe {Q : _ → Prop} (g1 : _) (i : Int) (a : Int) (free : List Bool) (zs : List Int) (hlen : free.length = sw.length) (h8 : sw.length ≤ 8) (j : Nat) (hj : j < sw.length) (hf : rd free j default = false) (H : ∀ k : Nat, k < sw.length → rd free k default = false → Okk (Codes_Feeder.j3 K g1 ((k : Int), a, i, free, rep, zs, sw, (), (), (), l, (z : Int))) Q) :
    ∀ (d it : Nat) (k : Nat), k < sw.length → (k ≤ j ∧ j - k ≤ d ∨ j < k ∧ sw.length - k + j ≤ d) → d < it → Okk (Codes_Feeder.j2 K g1 it ((k : Int), a, i, free, rep, zs, sw, (), (), (), l, (z : Int))) Q
  | d, 0, k, hk, hd, hit => by omega
  | d, it + 1, k, hk, hd, hit => by
    rw [Codes_Feeder.j2, Int.toNat_natCast]
    simp (disch := omega) only [sel_dt]
    by_cases hb : rd free k default = true
    · rw [hb, sel_t, sel_net (by omega), w64_small (by omega) (by omega)]
      have hne : k ≠ j := fun e => by rw [e, hf] at hb; cases hb
      by_cases hw : k + 1 < sw.length
      · rw [Int.tmod_eq_of_lt (by omega) (by omega)]
        have := probe g1 i a free zs hlen h8 j hj hf H (d - 1) it (k + 1) hw (by omega) (by omega)
        push_cast at this
        exact this
      · have e : (k : Int) + 1 = (free.length : Int) := by omega
        rw [e, Int.tmod_self]
        exact probe g1 i a free zs hlen h8 j hj hf H (d - 1) it 0 (by omega) (by omega) (by omega)
    · have hb : rd free k default = false := by simpa using hb
      rw [hb, sel_f]
      exact H k hk hb
theorem feed_loop1 (h1 : 1 ≤ sw.length) (h8 : sw.length ≤ 8) (hz : z ≤ sw.length) (hs : ∀ i, i < sw.length → SwitchDrawn i (rd sw i default)) (r1 : 1 ≤ rep) (r2 : rep ≤ 9) : ∀ (d i it : Nat) (a : Int) (free : List Bool) (zs : List Int), i + d = z → d < it → CO l a → zs.length = i → free.length = sw.length → nfree free + i = sw.length →
    (∀ j, j < zs.length → 0 ≤ rd zs j default ∧ rd zs j default < (sw.length : Int) ∧ rd free (rd zs j default).toNat default = true) → (∀ i j, i < j → j < zs.length → rd zs i default ≠ rd zs j default) →
    Okk (Codes_Feeder.j1 K it ((i : Int), free, a, rep, zs, sw, (), (), (), l, (z : Int))) fun r => FeedDrawn z r.1 ∧ CO l r.2.at_
  | 0, i, it + 1, a, free, zs, hi, hit, h, hzl, hfl, hn, hp, hd => by
    rw [Codes_Feeder.j1, sel_df (by omega)]
    exact .some ⟨⟨h1, h8, hs, by dsimp only; omega, fun j hj => ⟨(hp j hj).1, (hp j hj).2.1⟩, hd, r1, r2⟩, h⟩
  | d + 1, i, it + 1, a, free, zs, hi, hit, h, hzl, hfl, hn, hp, hd => by
    have hK := K_1000
    rw [Codes_Feeder.j1, sel_dt (by omega)]
    refine (next_o h (by omega)).bind fun r1' ⟨a1, b1, h⟩ => ?_
    obtain ⟨j, hj, hjf⟩ := nfree_pos (xs := free) (by omega)
    have := probe (l := l) (z := z) (rep := rep) (Q := fun r => FeedDrawn z r.1 ∧ CO l r.2.at_) (Codes_Feeder.j1 K it) (i : Int) r1'.2.at_ free zs hfl h8 j (by omega) hjf (fun k hk hkf => ?_) 16 K r1'.1.toNat (by omega) (by omega) (by omega)
    · rw [Int.toNat_of_nonneg a1] at this
      exact this
    · unfold Codes_Feeder.j3 Codes_Feeder.j4
      dsimp only
      rw [Int.toNat_natCast, sel_dt (by omega), sel_dt (by omega), sel_dt (by simp; omega), w64_small (by omega) (by omega)]
      have hk2 : k < free.length := by omega
      have hnf := nfree_set hk2 hkf
      refine feed_loop1 h1 h8 hz hs r1 r2 d (i + 1) it _ _ _ (by omega) (by omega) h (by simp; omega) (by simp; omega) (by omega) (fun q hq => ?_) (fun p q hpq hq => ?_)
      · by_cases h3 : q < zs.length
        · rw [rd_snoc_lt h3]
          have g := hp q h3
          refine ⟨g.1, g.2.1, ?_⟩
          by_cases h4 : k = (rd zs q default).toNat
          · rw [← h4, rd_set_eq hk2]
          · rw [rd_set_ne h4]; exact g.2.2
        · have : q = zs.length := by simp at hq; omega
          subst this
          rw [rd_snoc_eq, Int.toNat_natCast, rd_set_eq hk2]
          exact ⟨by omega, by omega, rfl⟩
      · by_cases h3 : q < zs.length
        · rw [rd_snoc_lt h3, rd_snoc_lt (by omega)]; exact hd p q hpq h3
        · have : q = zs.length := by simp at hq; omega
          subst this
          rw [rd_snoc_eq, rd_snoc_lt (by omega)]
          intro e
          have g := (hp p hpq).2.2
          rw [e, Int.toNat_natCast, hkf] at g
          cases g
theorem feed_loop0 {n : Int} (n0 : (z : Int) ≤ n) (n1 : n ≤ 7) (r1 : 1 ≤ rep) (r2 : rep ≤ 9) : ∀ (d i it : Nat) (a : Int) (sw : List T.Switch), (i : Int) + d = mx n 1 → d < it → CO l a → sw.length = i → (∀ i, i < sw.length → SwitchDrawn i (rd sw i default)) →
    Okk (Codes_Feeder.j0 K it ((i : Int), n, a, rep, [], sw, (), (), (), l, (z : Int))) fun r => FeedDrawn z r.1 ∧ CO l r.2.at_
  | 0, i, it + 1, a, sw, hi, hit, h, hl, hs => by
    have hK := K_1000
    have hm : (z : Int) ≤ mx n 1 ∧ 1 ≤ mx n 1 ∧ mx n 1 ≤ 7 := by unfold mx; split <;> omega
    rw [Codes_Feeder.j0, sel_df (by omega)]
    unfold Codes_Feeder.j6
    dsimp only
    rw [sel_eqt rfl, sel_dt (by omega), Int.toNat_natCast]
    exact feed_loop1 (by omega) (by omega) (by omega) hs r1 r2 z 0 K a _ [] (by omega) (by omega) h rfl (by simp) (by rw [nfree_repl]; rfl) (fun j hj => by simp at hj) (fun i j h1 hj => by simp at hj)
  | d + 1, i, it + 1, a, sw, hi, hit, h, hl, hs => by
    have hm : 1 ≤ mx n 1 ∧ mx n 1 ≤ 7 := by unfold mx; split <;> omega
    rw [Codes_Feeder.j0, sel_dt (by omega), w64_small (n := (i : Int) + 1) (by omega) (by omega)]
    refine (next_o h (by omega)).bind fun r1' ⟨a1, b1, h⟩ => (one_o h (by omega)).bind fun r2' h => ?_
    unfold Codes_Truth Codes_Truth.f
    refine Okk.bind (P := fun r => -1 ≤ r.1 ∧ r.1 ≤ 1 ∧ CO l r.2.at_) ((next_o h (by omega)).bind fun r3' ⟨a3, b3, h⟩ => .some ⟨by dsimp only; rw [w64_small (by omega) (by omega)]; omega, by dsimp only; rw [w64_small (by omega) (by omega)]; omega, h⟩) fun r4 ⟨a4, b4, h⟩ => ?_
    rw [sel_dt (by simp; omega), w64_small (n := r1'.1 - 1) (by omega) (by omega)]
    refine feed_loop0 n0 n1 r1 r2 d (i + 1) it _ _ (by push_cast; omega) (by omega) h (by simp; omega) (fun q hq => ?_)
    by_cases h3 : q < sw.length
    · rw [rd_snoc_lt h3]; exact hs q h3
    · have : q = sw.length := by simp at hq; omega
      subst this
      rw [rd_snoc_eq]
      exact ⟨by dsimp only; omega, by dsimp only; omega, rfl, a4, b4, rfl⟩
theorem feeder_o {a : Int} (h : CO l a) (hz : z ≤ 4) : Okk (Codes_Feeder ⟨l, a⟩ (z : Int)) fun r => FeedDrawn z r.1 ∧ CO l r.2.at_ := by
  have hK := K_1000
  unfold Codes_Feeder Codes_Feeder.f
  refine (range_o h (by omega) (by omega) (by omega)).bind fun r0 ⟨a0, b0, h⟩ => (next_o h (by omega)).bind fun r1 ⟨a1, b1, h⟩ => ?_
  rw [w64_small (by omega) (by omega)]
  have hm : 1 ≤ mx ((z : Int) + r1.1) 1 ∧ mx ((z : Int) + r1.1) 1 ≤ 7 := by unfold mx; split <;> omega
  exact feed_loop0 (n := (z : Int) + r1.1) (by omega) (by omega) a0 b0 (mx ((z : Int) + r1.1) 1).toNat 0 K _ [] (by omega) (by omega) h rfl (fun i hi => by simp at hi)
end
/-- flows as they are drawn -/
structure SpanDrawn (f : T.Span) : Prop where
  l0 : -100000 ≤ f.Low
  l1 : f.Low ≤ 100000
  h0 : -100000 ≤ f.High
  h1 : f.High ≤ 200000
structure SpanPre (f : T.Span) : Prop where
  l0 : -1000 ≤ f.Low
  l1 : f.Low ≤ 1000
  h0 : -1000 ≤ f.High
  h1 : f.High ≤ 1000
section
variable {l : List Int}
theorem spans_loop {fs : List Int} (hf : ∀ i, i < fs.length → -600 ≤ rd fs i default ∧ rd fs i default ≤ 600) (h9 : fs.length ≤ 100) : ∀ (d i it : Nat) (a : Int) (out : List T.Span), i + d = fs.length → d < it → CO l a → out.length = i → (∀ i, i < out.length → SpanPre (rd out i default)) →
    Okk (Codes_Spans.j0 K it ((i : Int), out, (), a, l, fs)) fun r => (r.1.length = fs.length ∧ ∀ i, i < r.1.length → SpanPre (rd r.1 i default)) ∧ CO l r.2.at_
  | 0, i, it + 1, a, out, hi, hit, h, hl, ho => by
    rw [Codes_Spans.j0, sel_df (by omega)]
    exact .some ⟨⟨by dsimp only; omega, ho⟩, h⟩
  | d + 1, i, it + 1, a, out, hi, hit, h, hl, ho => by
    have g := hf i (by omega)
    rw [Codes_Spans.j0, Int.toNat_natCast]
    simp (disch := omega) only [sel_dt]
    refine (next_o h (by omega)).bind fun r1 ⟨a1, b1, h⟩ => (next_o h (by omega)).bind fun r2 ⟨a2, b2, h⟩ => ?_
    rw [sel_dt (by simp; omega), w64_small (n := (i : Int) + 1) (by omega) (by omega), w64_small (n := rd fs i default - r1.1) (by omega) (by omega), w64_small (n := rd fs i default + r2.1) (by omega) (by omega)]
    exact spans_loop hf h9 d (i + 1) it _ _ (by omega) (by omega) h (by simp; omega) (all_snoc (P := SpanPre) ho ⟨by dsimp only; omega, by dsimp only; omega, by dsimp only; omega, by dsimp only; omega⟩)
theorem spans_o {a : Int} (h : CO l a) {fs : List Int} (hf : ∀ i, i < fs.length → -600 ≤ rd fs i default ∧ rd fs i default ≤ 600) (h9 : fs.length ≤ 100) :
    Okk (Codes_Spans ⟨l, a⟩ fs) fun r => (r.1.length = fs.length ∧ ∀ i, i < r.1.length → SpanPre (rd r.1 i default)) ∧ CO l r.2.at_ := by
  have hK := K_1000
  unfold Codes_Spans Codes_Spans.f
  exact spans_loop hf h9 fs.length 0 K _ [] (by omega) (by omega) h rfl (fun i hi => by simp at hi)
end
/-- the scene of the laws of restoring -/
structure SceneOk (x : T.law21_scene) : Prop where
  site : SiteOk x.site
  pe : x.site.Persons = [{ Role := 1 }, { Role := 2 }, { Role := 1 }, { Role := 3 }]
  zl : x.site.Zones.length ≤ 3
  rl : x.site.Air.Mine.Roads.length ≤ 9
  cl : x.cuts.length = x.site.Zones.length
  c : ∀ i, i < x.cuts.length → -1 ≤ (rd x.cuts i default).Clear ∧ (rd x.cuts i default).Clear ≤ 6
  fl : x.flows.length = x.site.Air.Mine.Roads.length
  f : ∀ i, i < x.flows.length → SpanDrawn (rd x.flows i default)
  fe : FeedDrawn x.site.Zones.length x.feeder
section
variable {l : List Int} {pe : List T.Person} {zs zs2 : List T.Zone} {co : List T.Cond} {se : List T.Sensor} {ds : List T.Door} {fs : List T.Fan} {mr : List T.Road} {mp : List T.Place}
/-- what the two loops keep -/
structure ScPre (pe : List T.Person) (zs : List T.Zone) (co : List T.Cond) (se : List T.Sensor) (ds : List T.Door) (fs : List T.Fan) (mr : List T.Road) (mp : List T.Place) : Prop where
  site : SiteOk { Air := { Mine := { Places := mp, Roads := mr }, Fans := fs, Doors := ds }, Sensors := se, Conds := co, Zones := zs, Persons := pe }
  pe : pe = [{ Role := 1 }, { Role := 2 }, { Role := 1 }, { Role := 3 }]
  zl : zs.length ≤ 3
  rl : mr.length ≤ 9
theorem made21_loop1 (H : ScPre pe zs co se ds fs mr mp) {cu : List T.Cut} (cl : cu.length = zs.length) (hc : ∀ i, i < cu.length → -1 ≤ (rd cu i default).Clear ∧ (rd cu i default).Clear ≤ 6) :
    ∀ (d i it : Nat) (a : Int) (fl : List T.Span), i + d = fl.length → d < it → CO l a → fl.length = mr.length → (∀ j, j < fl.length → SpanDrawn (rd fl j default) ∧ (i ≤ j → SpanPre (rd fl j default))) →
    Okk (law21_made.j1 K it ((i : Int), (mr.length : Int), fl, cu, pe, zs, co, se, ds, fs, mr, mp, (), a, zs, (), (), (), l)) fun r => SceneOk r.1 ∧ CO l r.2.at_
  | 0, i, it + 1, a, fl, hi, hit, h, hl, hf => by
    rw [law21_made.j1, sel_df (by omega)]
    unfold law21_made.j3
    have zl := H.zl
    refine (feeder_o h (by omega)).bind fun r ⟨hF, h⟩ => .some ⟨⟨H.site, H.pe, H.zl, H.rl, cl, hc, hl, fun j hj => (hf j hj).1, hF⟩, h⟩
  | d + 1, i, it + 1, a, fl, hi, hit, h, hl, hf => by
    have rl := H.rl
    have step : ∀ (fl' : List T.Span) (a : Int), CO l a → fl'.length = fl.length → (∀ j, j < fl'.length → SpanDrawn (rd fl' j default) ∧ (i + 1 ≤ j → SpanPre (rd fl' j default))) →
        Okk (law21_made.j2 K (law21_made.j1 K it) (a, (i : Int), (mr.length : Int), fl', cu, pe, zs, co, se, ds, fs, mr, mp, (), zs, (), (), (), l)) fun r => SceneOk r.1 ∧ CO l r.2.at_ := by
      intro fl' a h e hf'
      have ih := made21_loop1 H cl hc d (i + 1) it a fl' (by omega) (by omega) h (by omega) hf'
      push_cast at ih
      unfold law21_made.j2
      dsimp only
      rw [w64_small (by omega) (by omega)]
      exact ih
    rw [law21_made.j1, Int.toNat_natCast, sel_dt (by omega)]
    refine (one_o h (by omega)).bind fun r1 h => .sel (fun _ => ?_) (fun _ => step _ _ h rfl fun j hj => ⟨(hf j hj).1, fun hij => (hf j hj).2 (by omega)⟩)
    have g := (hf i (by omega)).2 (by omega)
    have g0 := g.l0; have g1 := g.l1; have g2 := g.h0; have g3 := g.h1
    simp only [List.length_set]
    simp (disch := omega) only [sel_dt]
    refine step _ _ h (by simp) fun j hj => ?_
    simp only [List.length_set] at hj
    by_cases hij : i = j
    · subst hij
      rw [rd_set_eq (by simp; omega)]
      have e : rd (fl.set i { Low := w64 ((rd fl i default).Low + 30000), High := (rd fl i default).High }) i default = { Low := w64 ((rd fl i default).Low + 30000), High := (rd fl i default).High } := rd_set_eq (by omega)
      rw [e]
      dsimp only
      rw [w64_small (n := (rd fl i default).Low + 30000) (by omega) (by omega), w64_small (n := (rd fl i default).High + 90000) (by omega) (by omega)]
      exact ⟨⟨by dsimp only; omega, by dsimp only; omega, by dsimp only; omega, by dsimp only; omega⟩, fun h => by omega⟩
    · rw [rd_set_ne hij, rd_set_ne hij]
      exact ⟨(hf j hj).1, fun h => (hf j hj).2 (by omega)⟩
theorem made21_loop0 (H : ScPre pe zs co se ds fs mr mp) {fl : List T.Span} (hl : fl.length = mr.length) (hf : ∀ j, j < fl.length → SpanPre (rd fl j default)) :
    ∀ (d i it : Nat) (a : Int) (cu : List T.Cut), i + d = zs.length → d < it → CO l a → cu.length = i → (∀ i, i < cu.length → -1 ≤ (rd cu i default).Clear ∧ (rd cu i default).Clear ≤ 6) →
    Okk (law21_made.j0 K it ((i : Int), (zs.length : Int), fl, cu, pe, zs, co, se, ds, fs, mr, mp, (), a, zs, (), (), (), l)) fun r => SceneOk r.1 ∧ CO l r.2.at_
  | 0, i, it + 1, a, cu, hi, hit, h, hl2, hc => by
    have hK := K_1000
    have rl := H.rl
    rw [law21_made.j0, sel_df (by omega)]
    unfold law21_made.j4
    dsimp only
    rw [hl]
    exact made21_loop1 H (by omega) hc fl.length 0 K a fl (by omega) (by omega) h hl fun j hj => ⟨by have g := hf j hj; exact ⟨by have := g.l0; omega, by have := g.l1; omega, by have := g.h0; omega, by have := g.h1; omega⟩, fun _ => hf j hj⟩
  | d + 1, i, it + 1, a, cu, hi, hit, h, hl2, hc => by
    have zl := H.zl
    rw [law21_made.j0, sel_dt (by omega)]
    refine (next_o h (by omega)).bind fun r1 ⟨a1, b1, h⟩ => (range_o h (by omega) (by omega) (by omega)).bind fun r2 ⟨a2, b2, h⟩ => ?_
    rw [sel_dt (by simp; omega), w64_small (by omega) (by omega)]
    exact made21_loop0 H hl hf d (i + 1) it _ _ (by omega) (by omega) h (by simp; omega) (all_snoc (P := fun c : T.Cut => -1 ≤ c.Clear ∧ c.Clear ≤ 6) hc ⟨a2, b2⟩)
end
theorem scene_o {l : List Int} {a : Int} (h : CO l a) : Okk (law21_made ⟨l, a⟩) fun r => SceneOk r.1 ∧ CO l r.2.at_ := by
  have hK := K_1000
  unfold law21_made law21_made.f
  refine (site_o h).bind fun r0 ⟨hS, h⟩ => ?_
  have hx := hS.pre.x; have hxl := hS.pre.xl; have r2 := hS.pre.r2; have z2 := hS.z2
  refine (spans_o h hx (by omega)).bind fun r1 ⟨⟨hl, hf⟩, h⟩ => ?_
  exact made21_loop0 (zs := r0.1.Zones) ⟨hS.ok, hS.pe, hS.z2, hS.pre.r2⟩ (hl.trans hxl) hf _ 0 K _ [] (Nat.zero_add _) (by omega) h rfl (fun i hi => by simp at hi)
end Go.Proofs.Ytlhknehkcflkgaa
