/- The plain law of RestoreOnly. -/
import Derived.Test.YtlhknehkcflkgaaPlFeed
import Derived.Test.YtlhknehkcflkgaaPlLate
set_option autoImplicit false
set_option linter.unusedVariables false
set_option linter.unusedSimpArgs false
set_option maxRecDepth 100000
namespace Go.Proofs.Ytlhknehkcflkgaa
open Go Ab
section
variable {s : T.Site} {c : List T.Cut} {fl : List T.Span} {r : T.Restoring} {t : Int}
theorem ask_o (h : SiteOk s) (hf : ∀ i, i < fl.length → FlowB (rd fl i default)) (person zone : Int) : Okk (restore_Ask s c fl r person zone t) fun y => (y.2 ≠ 0 ∧ y.1 = r) ∨ (y.2 = 0 ∧ r.Zone = -1 ∧ 0 ≤ person ∧ person < (s.Persons.length : Int) ∧ (rd s.Persons person.toNat default).Role = 1 ∧ checkP s c fl t = 0 ∧ readyP s c fl zone t = 0 ∧ y.1 = { Zone := zone, First := person, Second := -1, Step := 1, Time := t }) := by
  unfold restore_Ask restore_Ask.f
  rw [check_eq h, obind_some]
  refine .sel (fun e => .some (.inl ⟨by simpa using e, rfl⟩)) (fun e => ?_)
  have e0 : checkP s c fl t = 0 := by simpa using e
  obtain ⟨g1, g2, g3, g4⟩ := checkP_0 e0
  refine .sel (fun _ => .some (.inl ⟨by dsimp only; omega, rfl⟩)) (fun e1 => ?_)
  refine .seld (fun _ => .some (.inl ⟨by dsimp only; omega, rfl⟩)) (fun e2 => ?_)
  refine .seld (fun _ => .some (.inl ⟨by dsimp only; omega, rfl⟩)) (fun e3 => ?_)
  rw [sel_dt (by omega), sel_dt (by omega)]
  refine .sel (fun _ => .some (.inl ⟨by dsimp only; omega, rfl⟩)) (fun e4 => ?_)
  rw [ready_eq h g1 g2 hf g4, obind_some]
  refine .sel (fun e => .some (.inl ⟨by simpa using e, rfl⟩)) (fun e5 => ?_)
  exact .some (.inr ⟨rfl, by simpa using e1, by omega, by omega, by simpa using e4, e0, by simpa using e5, rfl⟩)
theorem late_o (r : T.Restoring) (t : Int) : Okk (restore_late r t) fun _ => True := by
  unfold restore_late restore_late.f
  exact .seld (fun _ => .some trivial) (fun _ => .seld (fun _ => .some trivial) (fun _ => .some trivial))
theorem confirm_o (h : SiteOk s) (hf : ∀ i, i < fl.length → FlowB (rd fl i default)) (person : Int) : Okk (restore_Confirm s c fl r person t) fun y => (y.2 ≠ 0 ∧ y.1 = r) ∨ (y.2 = 0 ∧ 0 ≤ person ∧ person < (s.Persons.length : Int) ∧ 0 ≤ r.First ∧ r.First < (s.Persons.length : Int) ∧ (rd s.Persons person.toNat default).Role ≠ (rd s.Persons r.First.toNat default).Role ∧ checkP s c fl t = 0 ∧ readyP s c fl r.Zone t = 0 ∧ y.1 = { Zone := r.Zone, First := r.First, Second := person, Step := 2, Time := t }) := by
  unfold restore_Confirm restore_Confirm.f
  rw [check_eq h, obind_some]
  refine .sel (fun e => .some (.inl ⟨by simpa using e, rfl⟩)) (fun e => ?_)
  have e0 : checkP s c fl t = 0 := by simpa using e
  obtain ⟨g1, g2, g3, g4⟩ := checkP_0 e0
  refine .sel (fun _ => .some (.inl ⟨by dsimp only; omega, rfl⟩)) (fun e1 => ?_)
  refine .sel (fun _ => .some (.inl ⟨by dsimp only; omega, rfl⟩)) (fun e1 => ?_)
  refine .seld (fun _ => .some (.inl ⟨by dsimp only; omega, rfl⟩)) (fun e2 => ?_)
  refine .seld (fun _ => .some (.inl ⟨by dsimp only; omega, rfl⟩)) (fun e3 => ?_)
  refine .sel (fun _ => .some (.inl ⟨by dsimp only; omega, rfl⟩)) (fun e4 => ?_)
  refine .seld (fun _ => .some (.inl ⟨by dsimp only; omega, rfl⟩)) (fun e5 => ?_)
  refine .seld (fun _ => .some (.inl ⟨by dsimp only; omega, rfl⟩)) (fun e6 => ?_)
  simp (disch := omega) only [sel_dt]
  refine .sel (fun _ => .some (.inl ⟨by dsimp only; omega, rfl⟩)) (fun e7 => ?_)
  refine (late_o r t).bind fun b _ => .sel (fun _ => .some (.inl ⟨by dsimp only; omega, rfl⟩)) (fun e8 => ?_)
  rw [ready_eq h g1 g2 hf g4, obind_some]
  refine .sel (fun e => .some (.inl ⟨by simpa using e, rfl⟩)) (fun e9 => ?_)
  exact .some (.inr ⟨rfl, by omega, by omega, by omega, by omega, by simpa using e7, e0, by simpa using e9, rfl⟩)
theorem readyP_0 {zone : Int} (h : readyP s c fl zone t = 0) : 0 ≤ zone ∧ zone < (c.length : Int) ∧ (rd c zone.toNat default).Off = true := by
  unfold readyP at h
  split at h
  · omega
  · split at h
    · omega
    · split at h
      · omega
      · rename_i h1 h2 h3
        exact ⟨by omega, by omega, by simpa using h3⟩
theorem close_o {f : T.Feeder} (h : SiteOk s) (hf : ∀ i, i < fl.length → FlowB (rd fl i default)) (hF : FeedG s.Zones.length f) (hc : c.length ≤ 10) (t1 : t ≤ 1000) :
    Okk (restore_Close s c fl r f t) fun y => (y.2.2.2 ≠ 0 ∧ y.1 = r ∧ y.2.1 = c ∧ y.2.2.1 = f) ∨ (y.2.2.2 = 0 ∧ r.Step = 2 ∧ checkP s c fl t = 0 ∧ readyP s c fl r.Zone t = 0 ∧ ∃ a, 0 ≤ a ∧ a < (f.Switches.length : Int) ∧ powP f.Switches c r.Zone a 0 f.Zones = false ∧ y.2.2.1 = shutG f a t ∧
      ((y.1 = { Zone := r.Zone, First := r.First, Second := r.Second, Step := r.Step, Time := t } ∧ y.2.1 = c) ∨ (y.1 = none0 ∧ y.2.1 = c.set r.Zone.toNat { Off := Bool.false, Clear := (rd c r.Zone.toNat default).Clear, Reason := (rd c r.Zone.toNat default).Reason }))) := by
  have s2 := hF.s2; have zl := hF.zl; have z4 := hF.z4
  have hcan : Okk (restore_can s c fl r f t) fun y => y.2 ≠ 0 ∨ (y.2 = 0 ∧ r.Step = 2 ∧ checkP s c fl t = 0 ∧ readyP s c fl r.Zone t = 0 ∧ y.1 = nextG f r.Zone ∧ powP f.Switches c r.Zone (nextG f r.Zone) 0 f.Zones = false) := by
    unfold restore_can restore_can.f
    rw [check_eq h, obind_some]
    refine .sel (fun e => .some (.inl (by simpa using e))) (fun e => ?_)
    have e0 : checkP s c fl t = 0 := by simpa using e
    obtain ⟨g1, g2, g3, g4⟩ := checkP_0 e0
    refine .sel (fun _ => .some (.inl (by dsimp only; omega))) (fun e1 => ?_)
    refine .sel (fun _ => .some (.inl (by dsimp only; omega))) (fun e2 => ?_)
    refine (late_o r t).bind fun b _ => .sel (fun _ => .some (.inl (by dsimp only; omega))) (fun e8 => ?_)
    rw [ready_eq h g1 g2 hf g4, obind_some]
    refine .sel (fun e => .some (.inl (by simpa using e))) (fun e9 => ?_)
    have e9 : readyP s c fl r.Zone t = 0 := by simpa using e9
    obtain ⟨q1, q2, q3⟩ := readyP_0 e9
    rw [fcheck_G hF, obind_some, sel_nef rfl, sel_nef (by omega), next_G hF g1 q1 (by omega), obind_some]
    refine .sel (fun _ => .some (.inl (by dsimp only; omega))) (fun e10 => ?_)
    exact .some (.inr ⟨rfl, by simpa using e2, e0, e9, rfl, e10⟩)
  unfold restore_Close restore_Close.f
  rw [sel_dt (by simp only [List.length_nil]; omega), sel_dt (by simp only [List.length_nil]; omega), sel_dt (by simp only [List.length_nil]; omega)]
  simp only [List.nil_append]
  refine hcan.bind fun y hy => .sel (fun e => .some (.inl ⟨by simpa using e, rfl, rfl, rfl⟩)) (fun e => ?_)
  have e : y.2 = 0 := by simpa using e
  rcases hy with hy | ⟨_, w2, w3, w4, w5, w6⟩
  · exact absurd e hy
  obtain ⟨q1, q2, q3⟩ := readyP_0 w4
  obtain ⟨g1, g2, g3, g4⟩ := checkP_0 w3
  have rg := nextG_range hF q1 (by omega)
  rw [w5]
  refine (fclose_G hF rg.1 rg.2 g3 t1).bind fun w hw => .sel (fun e => .some (.inl ⟨by simpa using e, rfl, rfl, rfl⟩)) (fun e => ?_)
  have e : w.2 = 0 := by simpa using e
  rcases hw with hw | ⟨_, hw⟩
  · exact absurd e hw
  rw [sel_dt (by omega), sel_dt (by omega)]
  refine .sel (fun _ => .some (.inr ⟨rfl, w2, w3, w4, _, rg.1, rg.2, w6, hw, .inl ⟨rfl, rfl⟩⟩)) (fun _ => ?_)
  rw [sel_dt (by omega), sel_dt (by omega)]
  exact .some (.inr ⟨rfl, w2, w3, w4, _, rg.1, rg.2, w6, hw, .inr ⟨rfl, rfl⟩⟩)
end
structure StepOk (x : T.law21_step) : Prop where
  z : 0 ≤ x.zone
  w0 : 0 ≤ x.wait
  w1 : x.wait ≤ 7
theorem steps_loop {l : List Int} : ∀ (n it : Nat) (a : Int) (out : List T.law21_step), n < it → CO l a → out.length + n ≤ 15 → (∀ i, i < out.length → StepOk (rd out i default)) →
    Okk (law21_steps.j0 K it ((n : Int), a, out, (), l)) fun r => r.1.length ≤ 15 ∧ ∀ i, i < r.1.length → StepOk (rd r.1 i default)
  | 0, it + 1, a, out, hn, h, hl, ho => by
    rw [law21_steps.j0, sel_df (by omega)]
    exact .some ⟨by dsimp only; omega, ho⟩
  | n + 1, it + 1, a, out, hn, h, hl, ho => by
    rw [law21_steps.j0, sel_dt (by omega)]
    refine (next_o h (by omega)).bind fun r1 ⟨a1, b1, h⟩ => (next_o h (by omega)).bind fun r2 ⟨a2, b2, h⟩ => (next_o h (by omega)).bind fun r3 ⟨a3, b3, h⟩ => (next_o h (by omega)).bind fun r4 ⟨a4, b4, h⟩ => ?_
    rw [sel_dt (by simp; omega), w64_small (by omega) (by omega), show ((n + 1 : Nat) : Int) - 1 = (n : Int) by omega]
    exact steps_loop n it _ _ (by omega) h (by simp; omega) (all_snoc (P := StepOk) ho ⟨a3, a4, by dsimp only; omega⟩)
theorem steps_o {l : List Int} {a : Int} (h : CO l a) : Okk (law21_steps ⟨l, a⟩) fun r => r.1.length ≤ 15 ∧ ∀ i, i < r.1.length → StepOk (rd r.1 i default) := by
  have hK := K_1000
  unfold law21_steps law21_steps.f
  refine (next_o h (by omega)).bind fun r0 ⟨a0, b0, h⟩ => ?_
  have := steps_loop (l := l) r0.1.toNat K r0.2.at_ [] (by omega) h (by simp; omega) (fun i hi => by simp at hi)
  rw [Int.toNat_of_nonneg a0] at this
  exact this
section
variable {pe : List T.Person} {zs : List T.Zone} {co : List T.Cond} {se : List T.Sensor} {ds : List T.Door} {fs : List T.Fan} {mr : List T.Road} {mp : List T.Place} {fl : List T.Span} {st : List T.law21_step}
theorem only_loop (hS : SiteOk { Air := { Mine := { Places := mp, Roads := mr }, Fans := fs, Doors := ds }, Sensors := se, Conds := co, Zones := zs, Persons := pe }) (hz3 : zs.length ≤ 3) (hfl : ∀ i, i < fl.length → FlowB (rd fl i default)) (hst : ∀ i, i < st.length → StepOk (rd st i default)) (hs15 : st.length ≤ 15) :
    ∀ (d i it : Nat) (t : Int) (c : List T.Cut) (sw : List T.Switch) (fz : List Int) (rp : Int) (rT rS r2 r1 rZ : Int), i + d = st.length → d < it → 0 ≤ t → t ≤ 5 + 7 * (i : Int) → c.length = zs.length → FeedG zs.length { Switches := sw, Zones := fz, Reply := rp } → (rS = 2 → 0 ≤ r2) →
    law21_RestoreOnly.j0 K it ((i : Int), (st.length : Int), st, t, r2, r1, rZ, rT, rS, r2, r1, rZ, (), rp, fz, sw, fl, c, pe, zs, co, se, ds, fs, mr, mp, ()) = some true
  | 0, i, it + 1, t, c, sw, fz, rp, rT, rS, r2, r1, rZ, hi, hit, t0, t1, hc, hF, hr => by
    rw [law21_RestoreOnly.j0, sel_df (by omega)]
    unfold law21_RestoreOnly.j7
    rw [awake_true]
    rfl
  | d + 1, i, it + 1, t, c, sw, fz, rp, rT, rS, r2, r1, rZ, hi, hit, t0, t1, hc, hF, hr => by
    have ih := fun t c sw fz rp rT rS r2 r1 rZ => only_loop hS hz3 hfl hst hs15 d (i + 1) it t c sw fz rp rT rS r2 r1 rZ (by omega) (by omega)
    push_cast at ih
    have g := hst i (by omega)
    have gz := g.z; have gw0 := g.w0; have gw1 := g.w1
    rw [law21_RestoreOnly.j0, Int.toNat_natCast]
    simp (disch := omega) only [sel_dt]
    generalize rd st i default = x at *
    rw [w64_small (n := t + x.wait) (by omega) (by omega)]
    have ht0 : 0 ≤ t + x.wait := by omega
    have ht1 : t + x.wait ≤ 5 + 7 * ((i : Int) + 1) := by omega
    generalize t + x.wait = t' at *
    -- what a step ends with
    have six : ∀ (c : List T.Cut) (sw : List T.Switch) (fz : List Int) (rp rT rS r2 r1 rZ : Int), c.length = zs.length → FeedG zs.length { Switches := sw, Zones := fz, Reply := rp } → (rS = 2 → 0 ≤ r2) →
        law21_RestoreOnly.j6 K (law21_RestoreOnly.j0 K it) (rT, rS, r2, r1, rZ, r2, r1, rZ, t', (i : Int), (st.length : Int), st, (), rp, fz, sw, fl, c, pe, zs, co, se, ds, fs, mr, mp, ()) = some true := by
      intro c sw fz rp rT rS r2 r1 rZ hc hF hr
      unfold law21_RestoreOnly.j6
      dsimp only
      rw [w64_small (by omega) (by omega)]
      exact ih t' c sw fz rp rT rS r2 r1 rZ ht0 ht1 hc hF hr
    have four : ∀ b : Bool, law21_RestoreOnly.j4 K (law21_RestoreOnly.j0 K it) (b, t', x.person, (), (i : Int), (st.length : Int), st, r2, r1, rZ, rT, rS, r2, r1, rZ, (), rp, fz, sw, fl, c, pe, zs, co, se, ds, fs, mr, mp, ()) = some true := by
      intro b
      unfold law21_RestoreOnly.j4
      dsimp only
      cases b
      · rw [sel_f]
        obtain ⟨y, ey, hy⟩ := close_o (c := c) (r := { Zone := rZ, First := r1, Second := r2, Step := rS, Time := rT }) (t := t') hS hfl hF (by omega) (by omega)
        rw [ey, obind_some]
        rcases hy with ⟨y1, y2, y3, y4⟩ | ⟨y1, y2, y3, y4, a, y5, y6, y7, y8, y9⟩
        · rw [sel_eqf y1, sel_eqf y1, y2, y3, y4]
          exact six c sw fz rp rT rS r2 r1 rZ hc hF hr
        · obtain ⟨q1, q2, q3⟩ := readyP_0 y4
          have q1 : 0 ≤ rZ := q1
          have q2 : rZ < (c.length : Int) := q2
          have q3 : (rd c rZ.toNat default).Off = true := q3
          have y2 : rS = 2 := y2
          have h2 := hr y2
          have hgood := shutG_good hF (s := a) (t := t') y5 y6 ht0 (by omega)
          have hcl : ∀ c' : List T.Cut, c'.length = c.length → (∀ i, i < c'.length → (i : Int) ≠ rZ → rd c' i default = rd c i default) → law21_closes { site := { Air := { Mine := { Places := mp, Roads := mr }, Fans := fs, Doors := ds }, Sensors := se, Conds := co, Zones := zs, Persons := pe }, cuts := c, flows := fl, feeder := { Switches := sw, Zones := fz, Reply := rp } } c' (shutG { Switches := sw, Zones := fz, Reply := rp } a t') rZ = some true :=
            fun c' h1 h2 => closes_G (x := { site := { Air := { Mine := { Places := mp, Roads := mr }, Fans := fs, Doors := ds }, Sensors := se, Conds := co, Zones := zs, Persons := pe }, cuts := c, flows := fl, feeder := { Switches := sw, Zones := fz, Reply := rp } }) hF y5 y6 ht0 (by omega) hc h1 h2 y7
          rw [sel_eqt y1, sel_df (by omega), sel_df (by omega), y8]
          rcases y9 with ⟨z1, z2⟩ | ⟨z1, z2⟩
          · rw [z2, hcl c rfl (fun _ _ _ => rfl), obind_some, Bool.not_true, sel_f, sel_eqt y1, sel_dt q1, sel_dt q2, q3, Bool.not_true, sel_f, z1]
            exact six c _ _ _ t' rS r2 r1 rZ hc hgood hr
          · have hset : ∀ v : T.Cut, (c.set rZ.toNat v).length = c.length := fun v => List.length_set
            rw [z2, hcl _ (hset _) (fun j hj hne => rd_set_ne (by omega)), obind_some, Bool.not_true, sel_f, sel_eqt y1, sel_dt q1, sel_dt (by rw [hset]; exact q2)]
            rw [show (rd (c.set ({ Zone := rZ, First := r1, Second := r2, Step := rS, Time := rT } : T.Restoring).Zone.toNat { Off := Bool.false, Clear := (rd c ({ Zone := rZ, First := r1, Second := r2, Step := rS, Time := rT } : T.Restoring).Zone.toNat default).Clear, Reason := (rd c ({ Zone := rZ, First := r1, Second := r2, Step := rS, Time := rT } : T.Restoring).Zone.toNat default).Reason }) rZ.toNat default).Off = false from by rw [rd_set_eq (by omega)], Bool.not_false, sel_t, z1]
            exact six _ _ _ _ 0 0 (-1) (-1) (-1) (by rw [hset]; exact hc) hgood (by omega)
      · rw [sel_t]
        obtain ⟨y, ey, hy⟩ := confirm_o (c := c) (r := { Zone := rZ, First := r1, Second := r2, Step := rS, Time := rT }) (t := t') hS hfl x.person
        rw [ey, obind_some]
        rcases hy with ⟨y1, y2⟩ | ⟨y1, y2, y3, y4, y5, y6, y7, y8, y9⟩
        · rw [sel_eqf y1, y2]
          exact six c sw fz rp rT rS r2 r1 rZ hc hF hr
        · obtain ⟨q1, q2, q3⟩ := readyP_0 y8
          have q1 : 0 ≤ rZ := q1
          have y4 : 0 ≤ r1 := y4
          have y5 : r1 < (pe.length : Int) := y5
          have y3 : x.person < (pe.length : Int) := y3
          have hR := Ready_eq (zone := rZ) (t := t') (c := c) hS hfl
          unfold ReadyP at hR
          rw [if_pos y7, y8] at hR
          rw [sel_eqt y1, sel_df (by omega), sel_df (by omega), sel_dt y2, sel_dt y3, sel_dt y4, sel_dt y5, sel_eqf y6, hR, obind_some, sel_nef rfl, y9]
          exact six c sw fz rp t' 2 x.person r1 rZ hc hF (fun _ => y2)
    have five : ∀ (b ready : Bool) (k : Int), (ready = false → ∀ (h : readyP { Air := { Mine := { Places := mp, Roads := mr }, Fans := fs, Doors := ds }, Sensors := se, Conds := co, Zones := zs, Persons := pe } c fl x.zone t' = 0) (h2 : checkP { Air := { Mine := { Places := mp, Roads := mr }, Fans := fs, Doors := ds }, Sensors := se, Conds := co, Zones := zs, Persons := pe } c fl t' = 0), False) →
        law21_RestoreOnly.j5 K (law21_RestoreOnly.j0 K it) (b, k, ready, t', x.zone, x.person, (), (i : Int), (st.length : Int), st, r2, r1, rZ, rT, rS, r2, r1, rZ, (), rp, fz, sw, fl, c, pe, zs, co, se, ds, fs, mr, mp, ()) = some true := by
      intro b ready k hready
      unfold law21_RestoreOnly.j5
      dsimp only
      cases b
      · rw [sel_f]
        by_cases hk : k = 2
        · rw [sel_eqt hk]; exact four true
        · rw [sel_eqf hk]; exact four _
      · rw [sel_t]
        obtain ⟨y, ey, hy⟩ := ask_o (c := c) (r := { Zone := rZ, First := r1, Second := r2, Step := rS, Time := rT }) (t := t') hS hfl x.person x.zone
        rw [ey, obind_some]
        rcases hy with ⟨y1, y2⟩ | ⟨y1, y2, y3, y4, y5, y6, y7, y8⟩
        · rw [sel_eqf y1, y2]
          exact six c sw fz rp rT rS r2 r1 rZ hc hF hr
        · have y2 : rZ = -1 := y2
          have y4 : x.person < (pe.length : Int) := y4
          cases ready
          · exact (hready rfl y7 y6).elim
          · rw [sel_eqt y1, Bool.not_true, sel_f, sel_df (by omega), sel_dt y3, sel_dt y4, sel_nef y5, sel_df (by omega), y8]
            exact six c sw fz rp t' 1 (-1) x.person x.zone hc hF (by omega)
    by_cases hzc : x.zone < (c.length : Int)
    · rw [sel_dt hzc, Ready_eq hS hfl, obind_some]
      have hh : ((ReadyP { Air := { Mine := { Places := mp, Roads := mr }, Fans := fs, Doors := ds }, Sensors := se, Conds := co, Zones := zs, Persons := pe } c fl x.zone t' == 0) = false → ∀ (h : readyP { Air := { Mine := { Places := mp, Roads := mr }, Fans := fs, Doors := ds }, Sensors := se, Conds := co, Zones := zs, Persons := pe } c fl x.zone t' = 0) (h2 : checkP { Air := { Mine := { Places := mp, Roads := mr }, Fans := fs, Doors := ds }, Sensors := se, Conds := co, Zones := zs, Persons := pe } c fl t' = 0), False) := by
        intro e h h2
        unfold ReadyP at e
        rw [if_pos h2, h] at e
        cases e
      by_cases hk : x.kind = 0
      · rw [sel_eqt hk]; exact five _ _ _ hh
      · rw [sel_eqf hk]; exact five _ _ _ hh
    · rw [sel_df hzc]
      have hh : (false = false → ∀ (h : readyP { Air := { Mine := { Places := mp, Roads := mr }, Fans := fs, Doors := ds }, Sensors := se, Conds := co, Zones := zs, Persons := pe } c fl x.zone t' = 0) (h2 : checkP { Air := { Mine := { Places := mp, Roads := mr }, Fans := fs, Doors := ds }, Sensors := se, Conds := co, Zones := zs, Persons := pe } c fl t' = 0), False) := fun _ h _ => by
        have := (readyP_0 h).2.1
        omega
      by_cases hk : x.kind = 0
      · rw [sel_eqt hk]; exact five _ _ _ hh
      · rw [sel_eqf hk]; exact five _ _ _ hh
end
theorem only_true (codes : List Int) (hc : ∀ z ∈ codes, 0 ≤ z ∧ z ≤ 255) : law21_RestoreOnly codes = some true := by
  have hK := K_1000
  obtain ⟨⟨l, a⟩, e, h⟩ := new_ok hc
  obtain ⟨⟨x, cc⟩, e2, hx, hcc⟩ := scene_o (l := l) (a := a) h
  have hx : SceneOk x := hx
  obtain ⟨⟨st, cd⟩, e3, hs15, hst⟩ := steps_o (l := l) (a := cc.at_) hcc
  have hN : restore_None () = some none0 := rfl
  unfold law21_RestoreOnly law21_RestoreOnly.f
  rw [e, obind_some, e2, obind_some, hN, obind_some]
  dsimp only
  rw [e3, obind_some]
  have zl := hx.zl
  have hs15 : st.length ≤ 15 := hs15
  exact only_loop (zs := x.site.Zones) hx.site hx.zl (fun i hi => ⟨by have := (hx.f i hi).l0; omega, by have := (hx.f i hi).h1; omega⟩) hst hs15 st.length 0 K 5 x.cuts x.feeder.Switches x.feeder.Zones x.feeder.Reply 0 0 (-1) (-1) (-1) (Nat.zero_add _) (by omega) (by omega) (by omega) hx.cl (hx.fe.good (by omega)) (by omega)
end Go.Proofs.Ytlhknehkcflkgaa
