/- The plain law of RestoreOthers: what Close answers, and the law. -/
import Derived.Test.YtlhknehkcflkgaaPlOthers
set_option autoImplicit false
set_option linter.unusedVariables false
set_option linter.unusedSimpArgs false
set_option maxRecDepth 100000
namespace Go.Proofs.Ytlhknehkcflkgaa
open Go Ab
/-- the site with three zones -/
noncomputable def site3 (L D H : Int) : T.Site := { siteE L D H with Zones := (siteE L D H).Zones ++ (siteE L D H).Zones ++ (siteE L D H).Zones }
def cut0 : T.Cut := { Off := Bool.true, Clear := 0, Reason := 0 : T.Cut }
def cuts3 (b1 b2 : Bool) : List T.Cut := [cut0, { Off := b1, Clear := 0, Reason := 0 : T.Cut }, { Off := b2, Clear := 0, Reason := 0 : T.Cut }]
def rest3 : T.Restoring := { Zone := 0, First := 0, Second := 1, Step := 2, Time := 990 }
theorem check3_all : (([1, 2, 3, 4] : List Int).all fun L => ([1, 2, 3, 4, 5] : List Int).all fun D => ([1, 2, 3, 4, 5] : List Int).all fun H => isZ (cutoff_Check (site3 L D H))) = true := by kernel_rfl
theorem cutoff_3 {L D H n : Int} (h : EasyB L D H n) : cutoff_Check (site3 L D H) = some 0 := by
  obtain ⟨l1, l2, d1, d2, h1, h2, n1, n2⟩ := h
  have h0 := check3_all
  rw [List.all_eq_true] at h0
  have h3 := h0 L (by simp; omega)
  rw [List.all_eq_true] at h3
  have h4 := h3 D (by simp; omega)
  rw [List.all_eq_true] at h4
  exact isZ_eq (h4 H (by simp; omega))
theorem ready3_all (D : Int) : (([1, 2, 3, 4] : List Int).all fun L => ([1, 2, 3, 4, 5] : List Int).all fun H => [true, false].all fun b1 => [true, false].all fun b2 => isZ (restore_ready (site3 L D H) (cuts3 b1 b2) [{ Low := 300, High := 300 : T.Span }] 0 1000)) = true := by kernel_rfl
theorem ready_3 {L D H n : Int} (h : EasyB L D H n) (b1 b2 : Bool) : restore_ready (site3 L D H) (cuts3 b1 b2) [{ Low := 300, High := 300 : T.Span }] 0 1000 = some 0 := by
  obtain ⟨l1, l2, d1, d2, h1, h2, n1, n2⟩ := h
  have h0 := ready3_all D
  rw [List.all_eq_true] at h0
  have h3 := h0 L (by simp; omega)
  rw [List.all_eq_true] at h3
  have h4 := h3 H (by simp; omega)
  rw [List.all_eq_true] at h4
  have h5 := h4 b1 (by cases b1 <;> simp)
  rw [List.all_eq_true] at h5
  exact isZ_eq (h5 b2 (by cases b2 <;> simp))
theorem rcheck_3 {L D H n : Int} (h : EasyB L D H n) (b1 b2 : Bool) : restore_check (site3 L D H) (cuts3 b1 b2) [{ Low := 300, High := 300 : T.Span }] 1000 = some 0 := by
  unfold restore_check restore_check.f
  rw [cutoff_3 h]
  rfl
/-- the next switch -/
def nextO (sw : List T.Switch) : Int := lastO sw (pathO sw ((sw.length : Int) - 1)) ((sw.length : Int) - 1)
def unsO (sw : List T.Switch) (b1 b2 : Bool) : Bool := unsafeO sw b1 (nextO sw) (pathO sw ((sw.length : Int) - 2)) || unsafeO sw b2 (nextO sw) (pathO sw ((sw.length : Int) - 3))
theorem nextO_range {sw : List T.Switch} (h : SwsOk sw) (h3 : 3 ≤ sw.length) : 0 ≤ nextO sw ∧ nextO sw < (sw.length : Int) := by
  rcases lastO_mem (sw := sw) (pathO sw ((sw.length : Int) - 1)) ((sw.length : Int) - 1) with e | e
  · unfold nextO; rw [e]; omega
  · exact path_InR h (s := (sw.length : Int) - 1) (by omega) _ e
theorem pow0 (sw : List T.Switch) (b1 b2 : Bool) (a : Int) : powered (cuts3 b1 b2) (feedO sw) 0 a 0 (feedO sw).Zones = sel (!b1) (sel (!b2) (some false) (obind (feeder_Path (feedO sw) ((sw.length : Int) - 3)) fun o => obind (anyOpen sw a o) fun open_ => sel (o.contains a && !open_) (some true) (some false)))
    (obind (feeder_Path (feedO sw) ((sw.length : Int) - 2)) fun o => obind (anyOpen sw a o) fun open_ => sel (o.contains a && !open_) (some true) (sel (!b2) (some false) (obind (feeder_Path (feedO sw) ((sw.length : Int) - 3)) fun o => obind (anyOpen sw a o) fun open_ => sel (o.contains a && !open_) (some true) (some false)))) := by kernel_rfl
theorem pow1 {sw : List T.Switch} (h : SwsOk sw) (h3 : 3 ≤ sw.length) (h6 : sw.length ≤ 6) (b1 b2 : Bool) (a : Int) : powered (cuts3 b1 b2) (feedO sw) 0 a 0 (feedO sw).Zones = some (unsafeO sw b1 a (pathO sw ((sw.length : Int) - 2)) || unsafeO sw b2 a (pathO sw ((sw.length : Int) - 3))) := by
  have p1 := path_O h h3 h6 (s := (sw.length : Int) - 2) (by omega) (by omega)
  have p2 := path_O h h3 h6 (s := (sw.length : Int) - 3) (by omega) (by omega)
  have o1 := anyOpen_O (sw := sw) (a := a) _ (path_InR h (s := (sw.length : Int) - 2) (by omega))
  have o2 := anyOpen_O (sw := sw) (a := a) _ (path_InR h (s := (sw.length : Int) - 3) (by omega))
  rw [pow0, p1, p2]
  simp only [obind_some, o1, o2]
  unfold unsafeO
  generalize (pathO sw ((sw.length : Int) - 2)).contains a = x1
  generalize (pathO sw ((sw.length : Int) - 3)).contains a = x2
  generalize anyO sw a (pathO sw ((sw.length : Int) - 2)) = y1
  generalize anyO sw a (pathO sw ((sw.length : Int) - 3)) = y2
  cases b1 <;> cases b2 <;> cases x1 <;> cases x2 <;> cases y1 <;> cases y2 <;> rfl
theorem next_O {sw : List T.Switch} (h : SwsOk sw) (h3 : 3 ≤ sw.length) (h6 : sw.length ≤ 6) (b1 b2 : Bool) : restore_Next (cuts3 b1 b2) (feedO sw) 0 = some (nextO sw, unsO sw b1 b2) := by
  have p0 := path_O h h3 h6 (s := (sw.length : Int) - 1) (by omega) (by omega)
  have hr := path_InR h (s := (sw.length : Int) - 1) (by omega)
  have es : (feedO sw).Switches = sw := rfl
  unfold restore_Next
  rw [sel_pos (by rfl), sel_pos (by rfl), show rd (feedO sw).Zones (Int.toNat 0) default = (sw.length : Int) - 1 from rfl, p0, obind_some]
  have hc := path_cons (sw := sw) (s := (sw.length : Int) - 1) (by omega)
  rw [sel_dt (by rw [hc]; simp), es, lastOpen_O _ _ hr, obind_some]
  have e0 : rd (pathO sw ((sw.length : Int) - 1)) 0 default = (sw.length : Int) - 1 := by rw [hc]; rfl
  rw [e0]
  show obind (powered _ _ _ (nextO sw) _ _) _ = _
  rw [pow1 h h3 h6, obind_some]
  rfl
theorem timely_loop {sw : List T.Switch} (h : SwsOk sw) (hl : sw.length ≤ 1000) : ∀ (d i it : Nat), i + d = sw.length → d < it → feeder_timely.j0 K it ((i : Int), (sw.length : Int), sw, 1000) = some true
  | 0, i, it + 1, hi, _ => by
    unfold feeder_timely.j0
    rw [sel_neg (decide_eq_false (by omega))]
    rfl
  | d + 1, i, it + 1, hi, hit => by
    have g := h i (by omega)
    have si := g.since
    have ih := timely_loop h hl d (i + 1) it (by omega) (by omega)
    push_cast at ih
    unfold feeder_timely.j0
    rw [Int.toNat_natCast]
    simp (disch := omega) only [sel_dt, sel_df, w64_small]
    exact ih
theorem timely_O {sw : List T.Switch} (h : SwsOk sw) (h6 : sw.length ≤ 6) : feeder_timely (feedO sw) 1000 = some true := by
  have hK := K_big
  unfold feeder_timely feeder_timely.f
  rw [sel_df (by omega), sel_df (by omega)]
  exact timely_loop h (by omega) sw.length 0 K (by omega) (by omega)
def shutO (sw : List T.Switch) (s : Int) : T.Feeder := { feedO sw with Switches := sw.set s.toNat { Above := (rd sw s.toNat default).Above, Since := 1000, Shown := 0, Closed := Bool.true, Late := Bool.false : T.Switch } }
def badO (sw : List T.Switch) (s : Int) : Bool := (rd sw s.toNat default).Shown != -1 || (decide ((rd sw s.toNat default).Above ≥ 0) && (rd sw (rd sw s.toNat default).Above.toNat default).Shown != 1)
theorem fclone_O {sw : List T.Switch} (h6 : sw.length ≤ 6) : feeder_clone (feedO sw) = some (feedO sw) := by
  unfold feeder_clone feeder_clone.f
  have es : (feedO sw).Switches = sw := rfl
  have ez : (feedO sw).Zones.length = 3 := rfl
  rw [es, ez, sel_dt (by simp only [List.length_nil]; omega), sel_dt (by simp only [List.length_nil]; omega)]
  rfl
theorem fclose_O {sw : List T.Switch} (h : SwsOk sw) (h3 : 3 ≤ sw.length) (h6 : sw.length ≤ 6) {s : Int} (hs0 : 0 ≤ s) (hs : s < (sw.length : Int)) :
    feeder_Close (feedO sw) s 1000 = some (if badO sw s then ({ Switches := [], Zones := [], Reply := 0 : T.Feeder }, 10) else (shutO sw s, 0)) := by
  have es : (feedO sw).Switches = sw := rfl
  have g := h s.toNat (by omega)
  have a2 := g.a2
  have hcan : feeder_can (feedO sw) s 1000 = some 0 := by
    unfold feeder_can feeder_can.f
    rw [fcheck_O h h3 h6, obind_some, timely_O h h6, es]
    simp (disch := omega) only [sel_df, obind_some, sel_nef]
    rfl
  unfold feeder_Close feeder_Close.f
  rw [hcan, obind_some, fclone_O h6, es]
  simp (disch := omega) only [sel_dt, obind_some, sel_nef, es]
  unfold badO
  by_cases e1 : ((rd sw s.toNat default).Shown != -1) = true
  · rw [sel_pos e1, e1]; rfl
  · have e1 : ((rd sw s.toNat default).Shown != -1) = false := by simpa using e1
    rw [sel_neg e1, e1]
    by_cases e2 : (rd sw s.toNat default).Above ≥ 0
    · rw [sel_dt e2, decide_eq_true e2]
      by_cases e3 : ((rd sw (rd sw s.toNat default).Above.toNat default).Shown != 1) = true
      · rw [sel_pos e3, e3]; rfl
      · have e3 : ((rd sw (rd sw s.toNat default).Above.toNat default).Shown != 1) = false := by simpa using e3
        rw [sel_neg e3, e3]; rfl
    · rw [sel_df e2, decide_eq_false e2]; rfl
theorem close_3 {L D H n : Int} (hE : EasyB L D H n) {sw : List T.Switch} (h : SwsOk sw) (h3 : 3 ≤ sw.length) (h6 : sw.length ≤ 6) (b1 b2 : Bool) :
    restore_Close (site3 L D H) (cuts3 b1 b2) [{ Low := 300, High := 300 : T.Span }] rest3 (feedO sw) 1000 = some (if unsO sw b1 b2 then (rest3, cuts3 b1 b2, feedO sw, 20) else if badO sw (nextO sw) then (rest3, cuts3 b1 b2, feedO sw, 10)
      else if nextO sw = (sw.length : Int) - 1 then (none0, (cuts3 b1 b2).set 0 { cut0 with Off := false }, shutO sw (nextO sw), 0) else ({ rest3 with Time := 1000 }, cuts3 b1 b2, shutO sw (nextO sw), 0)) := by
  have hcan : restore_can (site3 L D H) (cuts3 b1 b2) [{ Low := 300, High := 300 : T.Span }] rest3 (feedO sw) 1000 = some (if unsO sw b1 b2 then (0, 20) else (nextO sw, 0)) := by
    unfold restore_can restore_can.f
    rw [rcheck_3 hE, obind_some, late_eq rest3 (by omega) (by omega), obind_some, show rest3.Zone = 0 from rfl, ready_3 hE, obind_some, fcheck_O h h3 h6, obind_some, next_O h h3 h6, obind_some]
    show sel (unsO sw b1 b2) (some (0, 20)) (some (nextO sw, 0)) = _
    cases unsO sw b1 b2 <;> rfl
  have hr := nextO_range h h3
  have es : (feedO sw).Switches = sw := rfl
  have ez : (feedO sw).Zones.length = 3 := rfl
  have ez0 : rd (feedO sw).Zones (Int.toNat 0) default = (sw.length : Int) - 1 := rfl
  have el : (cuts3 b1 b2).length = 3 := rfl
  unfold restore_Close restore_Close.f
  rw [hcan, obind_some, es, ez, el]
  rw [sel_dt (by simp only [List.length_nil]; omega), sel_dt (by simp only [List.length_nil]; omega), sel_dt (by simp only [List.length_nil]; omega)]
  cases hu : unsO sw b1 b2
  · rw [if_neg (by simp), if_neg (by simp)]
    dsimp only
    rw [sel_nef rfl, fclose_O h h3 h6 hr.1 hr.2, obind_some]
    cases hb : badO sw (nextO sw)
    · rw [if_neg (by simp), if_neg (by simp)]
      dsimp only
      rw [sel_nef rfl, show rest3.Zone = 0 from rfl, sel_dt (by omega), sel_dt (by omega), ez0, sel_dt (by omega), sel_dt (by rw [List.nil_append, el]; omega)]
      by_cases hn : nextO sw = (sw.length : Int) - 1
      · rw [sel_nef hn, if_pos hn]; rfl
      · rw [sel_net hn, if_neg hn]; rfl
    · rw [if_pos rfl, if_pos rfl]; rfl
  · rw [if_pos rfl, if_pos rfl]; rfl
end Go.Proofs.Ytlhknehkcflkgaa
