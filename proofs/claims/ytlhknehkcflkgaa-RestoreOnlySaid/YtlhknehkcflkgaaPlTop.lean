/- The plain law of RestoreTopDown: there are no more than 300 scenes. -/
import Derived.Test.YtlhknehkcflkgaaPlBase
import Derived.Test.YtlhknehkcflkgaaAbN4
set_option autoImplicit false
set_option maxRecDepth 100000
namespace Go.Proofs.Ytlhknehkcflkgaa
open Go Ab
/-- an easy site and its feeder, by what was chosen -/
noncomputable def easyJ (L D H n a : Int) : Option (T.Site × T.Feeder × T.draw_Codes) :=
  Codes_Easy.j0 K K (n, a, 3, [0], [{ Above := -1, Since := 0, Shown := 0, Closed := Bool.true, Late := Bool.false : T.Switch }], (), [{ Rule := [{ Kind := 1, Cond := 0, Left := 0, Right := 0 : T.RuleNode }], Hold := H, Roads := [0], Fresh := 1 : T.Zone }], [{ Role := 1 : T.Person }, { Role := 2 : T.Person }], [{ Kind := 1, Target := 0, Value := 0, Level := { Cut := 100, Clear := 60, Delay := D : T.Level } : T.Cond }], [{ Address := 0, Kind := 1, Target := 0, Offset := 0, Scale := 1000, Error := 1, Drift := 1000, Life := 60 : T.Sensor }], [], [], [{ From := 0, To := 1, Length := L, Area := 4, Walk := Bool.false, Closed := Bool.false, Rest := { Low := 1, High := 1 : T.Span }, Lift := { Low := 90000, High := 90000 : T.Span } : T.Road }], [{ Height := 0, Surface := Bool.true : T.Place }, { Height := 0, Surface := Bool.true : T.Place }], (), (), (), ())
theorem easy_ok {c : T.draw_Codes} (h : CodesOk c) : ∃ L D H n a, 1 ≤ L ∧ L ≤ 4 ∧ 1 ≤ D ∧ D ≤ 5 ∧ 1 ≤ H ∧ H ≤ 5 ∧ 0 ≤ n ∧ n ≤ 2 ∧ Codes_Easy c = easyJ L D H n a ∧ 0 ≤ a ∧ a ≤ (c.l.length : Int) := by
  obtain ⟨L, a1, e1, p1, p2, p3, p4⟩ := range_ok h (lo := 1) (hi := 4) (by omega) (by omega) (by omega)
  obtain ⟨D, a2, e2, q1, q2, q3, q4⟩ := range_ok (h.upd p3 p4) (lo := 1) (hi := 5) (by omega) (by omega) (by omega)
  obtain ⟨H, a3, e3, r1, r2, r3, r4⟩ := range_ok (h.upd q3 q4) (lo := 1) (hi := 5) (by omega) (by omega) (by omega)
  obtain ⟨n, a4, e4, s1, s2, s3, s4⟩ := next_ok (h.upd r3 r4) (n := 3) (by omega)
  refine ⟨L, D, H, n, a4, p1, p2, q1, q2, r1, r2, s1, by omega, ?_, s3, s4⟩
  unfold Codes_Easy Codes_Easy.f
  rw [e1, obind_some]
  dsimp only
  rw [e2, obind_some]
  dsimp only
  rw [e3, obind_some]
  dsimp only
  rw [e4, obind_some]
  rfl
/-- what the law goes on with -/
noncomputable def topTail (r1 : T.Site × T.Feeder × T.draw_Codes) : Option Bool :=
  law21_RestoreTopDown.j0 K K (0, (↑r1.snd.fst.Switches.length : Int), r1.snd.fst.Reply, r1.snd.fst.Zones, r1.snd.fst.Switches, r1.fst.Persons, r1.fst.Zones, r1.fst.Conds, r1.fst.Sensors, r1.fst.Air.Doors, r1.fst.Air.Fans, r1.fst.Air.Mine.Roads, r1.fst.Air.Mine.Places, (), ())
def isT : Option Bool → Bool
  | some true => true
  | _ => false
theorem isT_eq {x : Option Bool} (h : isT x = true) : x = some true := by
  unfold isT at h
  split at h
  · rfl
  · cases h
theorem top_all (a : Int) : (([1, 2, 3, 4] : List Int).all fun L => ([1, 2, 3, 4, 5] : List Int).all fun D => ([1, 2, 3, 4, 5] : List Int).all fun H => ([0, 1, 2] : List Int).all fun n => isT (obind (easyJ L D H n a) topTail)) = true := by kernel_rfl
theorem topDown_true (zs : List Int) (h : ∀ z ∈ zs, 0 ≤ z ∧ z ≤ 255) : law21_RestoreTopDown zs = some true := by
  obtain ⟨c, e1, hc⟩ := new_ok h
  obtain ⟨L, D, H, n, a, l1, l2, d1, d2, h1, h2, n1, n2, e2, _⟩ := easy_ok hc
  unfold law21_RestoreTopDown law21_RestoreTopDown.f
  rw [e1, obind_some, e2]
  have h0 := top_all a
  rw [List.all_eq_true] at h0
  have h3 := h0 L (by simp; omega)
  rw [List.all_eq_true] at h3
  have h4 := h3 D (by simp; omega)
  rw [List.all_eq_true] at h4
  have h5 := h4 H (by simp; omega)
  rw [List.all_eq_true] at h5
  exact isT_eq (h5 n (by simp; omega))
end Go.Proofs.Ytlhknehkcflkgaa
