/- The plain law of RestoreOthers: the scenes, and the law. -/
import Derived.Test.YtlhknehkcflkgaaPlOthers2
set_option autoImplicit false
set_option linter.unusedVariables false
set_option linter.unusedSimpArgs false
set_option maxRecDepth 100000
namespace Go.Proofs.Ytlhknehkcflkgaa
open Go Ab
/-- the switches of an easy scene as it is made -/
def feedT (n : Int) : T.Feeder := { Switches := (List.range (n.toNat + 1)).map fun (i : Nat) => { Above := (i : Int) - 1, Since := 0, Shown := 0, Closed := Bool.true, Late := Bool.false : T.Switch }, Zones := [n], Reply := 3 }
theorem easyJ_0 (L D H a : Int) : easyJ L D H 0 a = some (siteE L D H, feedT 0, ⟨[], a⟩) := by kernel_rfl
theorem easyJ_1 (L D H a : Int) : easyJ L D H 1 a = some (siteE L D H, feedT 1, ⟨[], a⟩) := by kernel_rfl
theorem easyJ_2 (L D H a : Int) : easyJ L D H 2 a = some (siteE L D H, feedT 2, ⟨[], a⟩) := by kernel_rfl
theorem easyJ_eq (L D H n a : Int) (h1 : 0 ≤ n) (h2 : n ≤ 2) : easyJ L D H n a = some (siteE L D H, feedT n, ⟨[], a⟩) := by
  rcases (by omega : n = 0 ∨ n = 1 ∨ n = 2) with rfl | rfl | rfl
  · exact easyJ_0 L D H a
  · exact easyJ_1 L D H a
  · exact easyJ_2 L D H a
theorem sws_snoc {sw : List T.Switch} (h : SwsOk sw) {x : T.Switch} (hx : SwGood sw.length x) : SwsOk (sw ++ [x]) := by
  intro i hi
  by_cases h1 : i < sw.length
  · have := h i h1
    simpa [rd, List.getD, List.getElem?_append_left h1] using this
  · have : i = sw.length := by simp at hi; omega
    subst this
    simpa [rd, List.getD] using hx
theorem shown4 {v : Int} (h0 : 0 ≤ v) (h1 : v < 4) : -1 ≤ rd ([1, -1, -1, 0] : List Int) v.toNat default ∧ rd ([1, -1, -1, 0] : List Int) v.toNat default ≤ 1 := by
  rcases (by omega : v = 0 ∨ v = 1 ∨ v = 2 ∨ v = 3) with rfl | rfl | rfl | rfl <;> decide
section
variable (zs : List T.Zone) (ps : List T.Person) (cs : List T.Cond) (ss : List T.Sensor) (ds : List T.Door) (fs : List T.Fan) (rs : List T.Road) (pl : List T.Place)
theorem o0_loop (l : List Int) : ∀ (d i it : Nat) (sw : List T.Switch) (a : Int), i + d = 6 → d < it → sw.length = i → SwsOk sw → CodesOk ⟨l, a⟩ →
    ∃ sw' a', 3 ≤ sw'.length ∧ sw'.length ≤ 6 ∧ SwsOk sw' ∧ CodesOk ⟨l, a'⟩ ∧ law21_RestoreOthers.j0 K it ((i : Int), 3, [], sw, (), zs, ps, cs, ss, ds, fs, rs, pl, (), a, (), l) = law21_RestoreOthers.j11 K (a', 3, [], sw', (), zs, ps, cs, ss, ds, fs, rs, pl, (), (), l)
  | d, i, 0, sw, a, hi, hit, hl, hs, hc => by omega
  | d, i, it + 1, sw, a, hi, hit, hl, hs, hc => by
    obtain ⟨v, a1, e1, v0, v4, a10, a11⟩ := next_ok hc (n := 4) (by omega)
    have hc1 : CodesOk ⟨l, a1⟩ := hc.upd a10 a11
    by_cases hx : (i : Int) < 3 + v
    · obtain ⟨d, rfl⟩ : ∃ e, d = e + 1 := ⟨d - 1, by omega⟩
      have hm : 0 ≤ mn (i : Int) 2 ∧ mn (i : Int) 2 ≤ 2 ∧ mn (i : Int) 2 ≤ (i : Int) := by unfold mn; split <;> omega
      obtain ⟨v2, a2, e2, v20, v21, a20, a21⟩ := next_ok hc1 (n := mn (i : Int) 2 + 1) (by omega)
      have hc2 : CodesOk ⟨l, a2⟩ := hc1.upd a20 a21
      obtain ⟨b3, a3, e3, a30, a31⟩ := one_ok hc2 (n := 2) (by omega) (by omega)
      have hc3 : CodesOk ⟨l, a3⟩ := hc2.upd a30 a31
      obtain ⟨v4', a4, e4, v40, v41, a40, a41⟩ := next_ok hc3 (n := 4) (by omega)
      have hc4 : CodesOk ⟨l, a4⟩ := hc3.upd a40 a41
      have h4 := shown4 v40 v41
      have hn := o0_loop l d (i + 1) it (sw ++ [{ Above := v2 - 1, Since := 0, Shown := rd [1, -1, -1, 0] v4'.toNat default, Closed := b3, Late := Bool.false : T.Switch }]) a4 (by omega) (by omega) (by simp; omega)
        (sws_snoc hs ⟨by show -1 ≤ v2 - 1; omega, by show v2 - 1 < _; omega, rfl, h4.1, h4.2, rfl⟩) hc4
      obtain ⟨sw', a', g1, g2, g3, g4, g5⟩ := hn
      refine ⟨sw', a', g1, g2, g3, g4, ?_⟩
      push_cast at g5
      refine Eq.trans ?_ g5
      rw [law21_RestoreOthers.j0]
      rw [e1, obind_some]
      dsimp only
      rw [w64_small (n := mn (i : Int) 2 + 1) (by omega) (by omega), e2, obind_some]
      dsimp only
      rw [e3, obind_some]
      dsimp only
      rw [e4, obind_some]
      dsimp only
      simp (disch := omega) only [w64_small, sel_dt]
      rw [sel_dt (by simp; omega)]
    · refine ⟨sw, a1, by omega, by omega, hs, hc1, ?_⟩
      unfold law21_RestoreOthers.j0
      rw [e1, obind_some]
      simp (disch := omega) only [w64_small, sel_df]
theorem o1_eq (n a : Int) (hn : 3 ≤ n) (hn2 : n ≤ 6) (l : List Int) (sw : List T.Switch) (it : Nat) :
    law21_RestoreOthers.j1 K (it + 4) (0, n, a, 3, [], sw, (), zs, ps, cs, ss, ds, fs, rs, pl, (), (), l) = law21_RestoreOthers.j10 K (n, a, 3, [n - 1, n - 2, n - 3], sw, (), zs, ps, cs, ss, ds, fs, rs, pl, (), (), l) := by
  show law21_RestoreOthers.j1 K (it + 3 + 1) _ = _
  unfold law21_RestoreOthers.j1
  simp (disch := omega) only [sel_dt, w64_small]
  rw [sel_dt (by simp)]
  show law21_RestoreOthers.j1 K (it + 2 + 1) _ = _
  unfold law21_RestoreOthers.j1
  simp (disch := omega) only [sel_dt, w64_small]
  rw [sel_dt (by simp)]
  show law21_RestoreOthers.j1 K (it + 1 + 1) _ = _
  unfold law21_RestoreOthers.j1
  simp (disch := omega) only [sel_dt, w64_small]
  rw [sel_dt (by simp)]
  unfold law21_RestoreOthers.j1
  rw [sel_df (by omega)]
  simp only [List.nil_append, List.cons_append]
  rw [show n - 1 - 0 = n - 1 by omega, show n - 1 - (0 + 1) = n - 2 by omega, show n - 1 - (0 + 1 + 1) = n - 3 by omega]
theorem o9_eq (rT rS r2 r1 rZ : Int) (l : List T.Span) (cuts : List T.Cut) (n fR : Int) (fZ : List Int) (sw : List T.Switch) (h : SwsOk sw) (hl : sw.length ≤ 1000) (next own : Int) (h0 : 0 ≤ next) (h1 : next < (sw.length : Int)) :
    law21_RestoreOthers.j9 K (next, own, rT, rS, r2, r1, rZ, (), l, cuts, n, fR, fZ, sw, (), zs, ps, cs, ss, ds, fs, rs, pl, ()) = law21_RestoreOthers.j8 K ((if badO sw next then 10 else 0), next, own, rT, rS, r2, r1, rZ, (), l, cuts, n, fR, fZ, sw, (), zs, ps, cs, ss, ds, fs, rs, pl, ()) := by
  have g := (h next.toNat (by omega)).a2
  unfold law21_RestoreOthers.j9 badO
  dsimp only
  simp (disch := omega) only [sel_dt]
  by_cases e1 : ((rd sw next.toNat default).Shown != -1) = true
  · rw [sel_pos e1, e1]; rfl
  · have e1 : ((rd sw next.toNat default).Shown != -1) = false := by simpa using e1
    rw [sel_neg e1, e1]
    by_cases e2 : (rd sw next.toNat default).Above ≥ 0
    · rw [sel_dt e2, decide_eq_true e2]
      by_cases e3 : ((rd sw (rd sw next.toNat default).Above.toNat default).Shown != 1) = true
      · rw [sel_pos e3, e3]; rfl
      · have e3 : ((rd sw (rd sw next.toNat default).Above.toNat default).Shown != 1) = false := by simpa using e3
        rw [sel_neg e3, e3]; rfl
    · rw [sel_df e2, decide_eq_false e2]; rfl
end
theorem cuts_same3 (b1 b2 : Bool) : ref20_SameCuts (cuts3 b1 b2) (cuts3 b1 b2) = some true := by cases b1 <;> cases b2 <;> kernel_rfl
theorem same0_loop {sw : List T.Switch} {z : List Int} (hl : sw.length ≤ 1000) : ∀ (d i it : Nat), i + d = sw.length → d < it → ref18_Same.j0 K it ((i : Int), (), z, sw, (), z, sw) = ref18_Same.j3 K ((), z, (), z)
  | 0, i, it + 1, hi, _ => by
    unfold ref18_Same.j0
    rw [sel_df (by omega)]
  | d + 1, i, it + 1, hi, hit => by
    have ih := same0_loop (z := z) hl d (i + 1) it (by omega) (by omega)
    push_cast at ih
    unfold ref18_Same.j0
    rw [Int.toNat_natCast]
    simp (disch := omega) only [sel_dt, w64_small, beq_self_eq_true, Bool.and_self, Bool.not_true, sel_f]
    exact ih
theorem same1_loop {z : List Int} (hl : z.length ≤ 1000) : ∀ (d i it : Nat), i + d = z.length → d < it → ref18_Same.j1 K it ((i : Int), (), z, (), z) = some true
  | 0, i, it + 1, hi, _ => by
    unfold ref18_Same.j1
    rw [sel_df (by omega)]
    rfl
  | d + 1, i, it + 1, hi, hit => by
    have ih := same1_loop hl d (i + 1) it (by omega) (by omega)
    push_cast at ih
    unfold ref18_Same.j1
    rw [Int.toNat_natCast]
    simp (disch := omega) only [sel_dt, w64_small, bne_self_eq_false, sel_f]
    exact ih
theorem fsame_refl (f : T.Feeder) (h1 : f.Switches.length ≤ 1000) (h2 : f.Zones.length ≤ 1000) : ref18_Same f f = some true := by
  have hK := K_big
  unfold ref18_Same ref18_Same.f
  rw [sel_nef rfl, sel_nef rfl, sel_nef rfl]
  have e := same0_loop (z := f.Zones) h1 f.Switches.length 0 K (by omega) (by omega)
  rw [show ((0 : Nat) : Int) = 0 from rfl] at e
  rw [e]
  unfold ref18_Same.j3
  exact same1_loop h2 f.Zones.length 0 K (by omega) (by omega)
theorem shut_rd {sw : List T.Switch} {s : Int} (hs : s < (sw.length : Int)) (hs0 : 0 ≤ s) : rd (shutO sw s).Switches s.toNat default = { Above := (rd sw s.toNat default).Above, Since := 1000, Shown := 0, Closed := Bool.true, Late := Bool.false : T.Switch } := by
  have : s.toNat < sw.length := by omega
  simp [shutO, rd, List.getD, this]
theorem o7_true {L D H n : Int} (hE : EasyB L D H n) {sw : List T.Switch} (h : SwsOk sw) (h3 : 3 ≤ sw.length) (h6 : sw.length ≤ 6) (b1 b2 : Bool) :
    law21_RestoreOthers.j7 K ((if unsO sw b1 b2 then 20 else if badO sw (nextO sw) then 10 else 0), nextO sw, (sw.length : Int) - 1, 990, 2, 1, 0, 0, (), [{ Low := 300, High := 300 : T.Span }], cuts3 b1 b2, (sw.length : Int), 3, (feedO sw).Zones, sw, (), (site3 L D H).Zones, (site3 L D H).Persons, (site3 L D H).Conds, (site3 L D H).Sensors, (site3 L D H).Air.Doors, (site3 L D H).Air.Fans, (site3 L D H).Air.Mine.Roads, (site3 L D H).Air.Mine.Places, ()) = some true := by
  have hr := nextO_range h h3
  have hc := close_3 hE h h3 h6 b1 b2
  have es : ({ Switches := sw, Zones := (feedO sw).Zones, Reply := 3 } : T.Feeder) = feedO sw := rfl
  have er : ({ Zone := 0, First := 0, Second := 1, Step := 2, Time := 990 } : T.Restoring) = rest3 := rfl
  unfold law21_RestoreOthers.j7
  dsimp only
  rw [es, er, show ({ Air := { Mine := { Places := (site3 L D H).Air.Mine.Places, Roads := (site3 L D H).Air.Mine.Roads }, Fans := (site3 L D H).Air.Fans, Doors := (site3 L D H).Air.Doors }, Sensors := (site3 L D H).Sensors, Conds := (site3 L D H).Conds, Zones := (site3 L D H).Zones, Persons := (site3 L D H).Persons } : T.Site) = site3 L D H from rfl]
  cases hu : unsO sw b1 b2
  · cases hb : badO sw (nextO sw)
    · have el : (shutO sw (nextO sw)).Switches.length = sw.length := by simp [shutO]
      have ek := shut_rd (sw := sw) hr.2 hr.1
      by_cases hn : nextO sw = (sw.length : Int) - 1
      · simp only [hu, hb, Bool.false_eq_true, if_false, if_true] at hc
        rw [if_pos hn] at hc
        rw [hc, obind_some]
        dsimp only
        rw [el, ek, awake_true, hn]
        simp (disch := omega) only [sel_dt, sel_nef, sel_t, sel_f, Bool.not_true, beq_self_eq_true, Bool.false_eq_true, if_false]
        cases b1 <;> cases b2 <;> rfl
      · simp only [hu, hb, Bool.false_eq_true, if_false, if_true] at hc
        rw [if_neg hn] at hc
        rw [hc, obind_some]
        dsimp only
        have hne : (nextO sw != (sw.length : Int) - 1) = true := by simpa using hn
        have heq : (nextO sw == (sw.length : Int) - 1) = false := by simpa using hn
        rw [el, ek, awake_true, hne, heq]
        simp (disch := omega) only [sel_dt, sel_nef, sel_t, sel_f, Bool.not_true, beq_self_eq_true, Bool.false_eq_true, if_false]
        cases b1 <;> cases b2 <;> rfl
    · simp only [hu, hb, Bool.false_eq_true, if_false, if_true] at hc
      rw [hc, obind_some]
      dsimp only
      rw [cuts_same3, fsame_refl _ (by show sw.length ≤ 1000; omega) (by simp [feedO]), awake_true]
      rfl
  · simp only [hu, if_true] at hc
    rw [hc, obind_some]
    dsimp only
    rw [cuts_same3, fsame_refl _ (by show sw.length ≤ 1000; omega) (by simp [feedO]), awake_true]
    rfl
theorem others_true (zs : List Int) (h : ∀ z ∈ zs, 0 ≤ z ∧ z ≤ 255) : law21_RestoreOthers zs = some true := by
  have hK := K_big
  obtain ⟨c, e1, hc⟩ := new_ok h
  obtain ⟨L, D, H, n, a, l1, l2, d1, d2, h1, h2, n1, n2, e2, a0, a1⟩ := easy_ok hc
  have hE : EasyB L D H n := ⟨l1, l2, d1, d2, h1, h2, n1, n2⟩
  unfold law21_RestoreOthers law21_RestoreOthers.f
  rw [e1, obind_some, e2, easyJ_eq L D H n a n1 n2, obind_some]
  dsimp only
  have ez : (siteE L D H).Zones.length = 1 := rfl
  rw [ez, sel_dt (by omega), sel_dt (by omega), sel_dt (by simp)]
  obtain ⟨sw, a', g1, g2, g3, g4, g5⟩ := o0_loop ((siteE L D H).Zones ++ [rd (siteE L D H).Zones (Int.toNat 0) default, rd (siteE L D H).Zones (Int.toNat 0) default]) (siteE L D H).Persons (siteE L D H).Conds (siteE L D H).Sensors (siteE L D H).Air.Doors (siteE L D H).Air.Fans (siteE L D H).Air.Mine.Roads (siteE L D H).Air.Mine.Places c.l 6 0 K [] a (by omega) (by omega) rfl (fun i hi => by simp at hi) ⟨hc.l, hc.len, a0, a1⟩
  rw [show ((0 : Nat) : Int) = 0 from rfl] at g5
  rw [g5]
  unfold law21_RestoreOthers.j11
  dsimp only
  have o1 := o1_eq ((siteE L D H).Zones ++ [rd (siteE L D H).Zones (Int.toNat 0) default, rd (siteE L D H).Zones (Int.toNat 0) default]) (siteE L D H).Persons (siteE L D H).Conds (siteE L D H).Sensors (siteE L D H).Air.Doors (siteE L D H).Air.Fans (siteE L D H).Air.Mine.Roads (siteE L D H).Air.Mine.Places (sw.length : Int) a' (by omega) (by omega) c.l sw (K - 4)
  rw [show K - 4 + 4 = K by omega] at o1
  rw [o1]
  obtain ⟨b1, a2, e3, a20, a21⟩ := one_ok g4 (n := 2) (by omega) (by omega)
  obtain ⟨b2, a3, e4, a30, a31⟩ := one_ok (g4.upd a20 a21) (n := 2) (by omega) (by omega)
  unfold law21_RestoreOthers.j10
  dsimp only
  rw [e3, obind_some]
  dsimp only
  rw [e4, obind_some, sel_dt (by simp)]
  have er : rd [(sw.length : Int) - 1, (sw.length : Int) - 2, (sw.length : Int) - 3] (Int.toNat 0) default = (sw.length : Int) - 1 := rfl
  rw [er, show ({ Switches := sw, Zones := [(sw.length : Int) - 1, (sw.length : Int) - 2, (sw.length : Int) - 3], Reply := 3 } : T.Feeder) = feedO sw from rfl, rpath_O g3 g1 g2 (by omega) (by omega), obind_some]
  have hp := path_len (sw := sw) ((sw.length : Int) - 1)
  have hpr := path_InR g3 (s := (sw.length : Int) - 1) (by omega)
  rw [w64_small (by omega) (by omega)]
  rw [o2_loop _ _ _ _ _ _ _ _ _ _ _ _ _ _ _ _ _ _ _ _ _ hpr (by omega) _ K (Nat.le_refl _) (by omega), List.take_length]
  have hr := nextO_range g3 g1
  rw [show lastO sw (pathO sw ((sw.length : Int) - 1)) ((sw.length : Int) - 1) = nextO sw from rfl]
  rw [o9_eq _ _ _ _ _ _ _ _ _ _ _ _ _ _ _ _ _ _ _ g3 (by omega) _ _ hr.1 hr.2]
  have o3 := o3_eq 990 2 1 0 0 [{ Low := 300, High := 300 : T.Span }] cut0 { Off := b1, Clear := 0, Reason := 0 : T.Cut } { Off := b2, Clear := 0, Reason := 0 : T.Cut } (sw.length : Int) sw g3 g1 g2 ((siteE L D H).Zones ++ [rd (siteE L D H).Zones (Int.toNat 0) default, rd (siteE L D H).Zones (Int.toNat 0) default]) (siteE L D H).Persons (siteE L D H).Conds (siteE L D H).Sensors (siteE L D H).Air.Doors (siteE L D H).Air.Fans (siteE L D H).Air.Mine.Roads (siteE L D H).Air.Mine.Places (if badO sw (nextO sw) then 10 else 0) (nextO sw) ((sw.length : Int) - 1)
  refine Eq.trans o3 ?_
  have o7 := o7_true hE g3 g1 g2 b1 b2
  refine Eq.trans ?_ o7
  have ew : (if unsafeO sw b2 (nextO sw) (pathO sw ((sw.length : Int) - 3)) then (20 : Int) else if unsafeO sw b1 (nextO sw) (pathO sw ((sw.length : Int) - 2)) then 20 else if badO sw (nextO sw) then 10 else 0) = if unsO sw b1 b2 then 20 else if badO sw (nextO sw) then 10 else 0 := by
    unfold unsO
    cases unsafeO sw b2 (nextO sw) (pathO sw ((sw.length : Int) - 3)) <;> cases unsafeO sw b1 (nextO sw) (pathO sw ((sw.length : Int) - 2)) <;> rfl
  rw [ew]
  rfl
end Go.Proofs.Ytlhknehkcflkgaa
