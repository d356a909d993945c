/- The plain law of RestoreLate. -/
import Derived.Test.YtlhknehkcflkgaaPlRest
set_option autoImplicit false
set_option linter.unusedVariables false
set_option maxRecDepth 100000
namespace Go.Proofs.Ytlhknehkcflkgaa
open Go Ab
def c0 : T.Cut := { Off := Bool.true, Clear := 0, Reason := 0 : T.Cut }
def l0 : T.Span := { Low := 300, High := 300 : T.Span }
/-- the law behind the scene's making -/
noncomputable def lateNice (s : T.Site) (f : T.Feeder) (t u v : Int) : Option Bool :=
  obind (restore_None ()) fun r0 => obind (restore_Ask s [c0] [l0] r0 0 0 1000) fun r1 => sel (r1.snd != 0) (some (Bool.false)) (obind (restore_Confirm s [c0] [l0] r1.fst 1 t) fun r3 => obind (restore_Confirm s [c0] [l0] r1.fst 1 u) fun r4 => sel (!(r3.snd == 0) == decide (t ≤ 1600)) (some (Bool.false)) (sel (r3.snd != 0) (sel (r3.snd != 8) (some (Bool.false)) (sel (!(r3.fst.Zone == r1.fst.Zone && (r3.fst.First == r1.fst.First && (r3.fst.Second == r1.fst.Second && (r3.fst.Step == r1.fst.Step && r3.fst.Time == r1.fst.Time))))) (some (Bool.false)) (sel (r4.snd != 8) (some (Bool.false)) (sel (!(r4.fst.Zone == r1.fst.Zone && (r4.fst.First == r1.fst.First && (r4.fst.Second == r1.fst.Second && (r4.fst.Step == r1.fst.Step && r4.fst.Time == r1.fst.Time))))) (some (Bool.false)) (sel (r3.snd != 0) (obind (law21_awake ()) fun r12 => some (r12)) (obind (restore_Close s [c0] [l0] r3.fst f v) fun r12 => sel (r12.snd.snd.snd == 8) (sel (r12.fst.Zone == r3.fst.Zone && (r12.fst.First == r3.fst.First && (r12.fst.Second == r3.fst.Second && (r12.fst.Step == r3.fst.Step && r12.fst.Time == r3.fst.Time)))) (obind (ref20_SameCuts r12.snd.fst [c0]) fun r15 => sel (r15) (obind (ref18_Same r12.snd.snd.fst f) fun r17 => sel (r17) (obind (law21_awake ()) fun r19 => some (r19)) (some (Bool.false))) (some (Bool.false))) (some (Bool.false))) (some (Bool.false)))))))) (sel (r4.snd != 8) (some (Bool.false)) (sel (!(r4.fst.Zone == r1.fst.Zone && (r4.fst.First == r1.fst.First && (r4.fst.Second == r1.fst.Second && (r4.fst.Step == r1.fst.Step && r4.fst.Time == r1.fst.Time))))) (some (Bool.false)) (sel (r3.snd != 0) (obind (law21_awake ()) fun r10 => some (r10)) (obind (restore_Close s [c0] [l0] r3.fst f v) fun r10 => sel (r10.snd.snd.snd == 8) (sel (r10.fst.Zone == r3.fst.Zone && (r10.fst.First == r3.fst.First && (r10.fst.Second == r3.fst.Second && (r10.fst.Step == r3.fst.Step && r10.fst.Time == r3.fst.Time)))) (obind (ref20_SameCuts r10.snd.fst [c0]) fun r13 => sel (r13) (obind (ref18_Same r10.snd.snd.fst f) fun r15 => sel (r15) (obind (law21_awake ()) fun r17 => some (r17)) (some (Bool.false))) (some (Bool.false))) (some (Bool.false))) (some (Bool.false))))))))
noncomputable def lateTail (wait early : Int) (r1 : T.Site × T.Feeder × T.draw_Codes) : Option Bool :=
  law21_RestoreLate.j0 K K (0, (↑r1.snd.fst.Switches.length : Int), r1.snd.fst.Reply, r1.snd.fst.Zones, r1.snd.fst.Switches, r1.fst.Persons, r1.fst.Zones, r1.fst.Conds, r1.fst.Sensors, r1.fst.Air.Doors, r1.fst.Air.Fans, r1.fst.Air.Mine.Roads, r1.fst.Air.Mine.Places, (), (), wait, early)
theorem late_scene0 (L D H a wait early : Int) : obind (easyJ L D H 0 a) (lateTail wait early) = lateNice (siteE L D H) (feedE 0) (w64 (1000 + Int.tmod (w64 wait) 1300)) (w64 (999 - w64 early)) (w64 (w64 (w64 (w64 (1000 + Int.tmod (w64 wait) 1300) + 600) + 1) + w64 early)) := by kernel_rfl
theorem late_scene1 (L D H a wait early : Int) : obind (easyJ L D H 1 a) (lateTail wait early) = lateNice (siteE L D H) (feedE 1) (w64 (1000 + Int.tmod (w64 wait) 1300)) (w64 (999 - w64 early)) (w64 (w64 (w64 (w64 (1000 + Int.tmod (w64 wait) 1300) + 600) + 1) + w64 early)) := by kernel_rfl
theorem late_scene2 (L D H a wait early : Int) : obind (easyJ L D H 2 a) (lateTail wait early) = lateNice (siteE L D H) (feedE 2) (w64 (1000 + Int.tmod (w64 wait) 1300)) (w64 (999 - w64 early)) (w64 (w64 (w64 (w64 (1000 + Int.tmod (w64 wait) 1300) + 600) + 1) + w64 early)) := by kernel_rfl
theorem late_scene (L D H n a wait early : Int) (h1 : 0 ≤ n) (h2 : n ≤ 2) : obind (easyJ L D H n a) (lateTail wait early) = lateNice (siteE L D H) (feedE n) (w64 (1000 + Int.tmod (w64 wait) 1300)) (w64 (999 - w64 early)) (w64 (w64 (w64 (w64 (1000 + Int.tmod (w64 wait) 1300) + 600) + 1) + w64 early)) := by
  have : n = 0 ∨ n = 1 ∨ n = 2 := by omega
  rcases this with rfl | rfl | rfl
  · exact late_scene0 ..
  · exact late_scene1 ..
  · exact late_scene2 ..
theorem awake_true : law21_awake () = some true := by kernel_rfl
theorem cuts_same : ref20_SameCuts [c0] [c0] = some true := by kernel_rfl
theorem feed_same0 : ref18_Same (feedE 0) (feedE 0) = some true := by kernel_rfl
theorem feed_same1 : ref18_Same (feedE 1) (feedE 1) = some true := by kernel_rfl
theorem feed_same2 : ref18_Same (feedE 2) (feedE 2) = some true := by kernel_rfl
theorem feed_same (n : Int) (h1 : 0 ≤ n) (h2 : n ≤ 2) : ref18_Same (feedE n) (feedE n) = some true := by
  have : n = 0 ∨ n = 1 ∨ n = 2 := by omega
  rcases this with rfl | rfl | rfl
  · exact feed_same0
  · exact feed_same1
  · exact feed_same2
theorem feed_len (n : Int) (h1 : 0 ≤ n) (h2 : n ≤ 2) : (feedE n).Switches.length ≤ 3 := by
  simp [feedE, swE]; omega
/-- a restoration that is confirmed -/
def rcon (T1 : Int) : T.Restoring := { Zone := 0, First := 0, Second := 1, Step := 2, Time := T1 }
def rask (T0 : Int) : T.Restoring := { Zone := 0, First := 0, Second := -1, Step := 1, Time := T0 }
theorem can_E {L D H n : Int} (h : EasyB L D H n) (c : T.Cut) (l : T.Span) (f : T.Feeder) {t : Int} (h0 : 0 ≤ t) (h1 : t ≤ 2147483648) (T1 : Int) :
    restore_can (siteE L D H) [c] [l] (rcon T1) f t = obind (restore_late (rcon T1) t) fun b => sel b (some (0, 8)) (obind (restore_ready (siteE L D H) [c] [l] 0 t) fun e => sel (e != 0) (some (0, e)) (obind (feeder_Check f) fun e => sel (e != 0) (some (0, e)) (sel ((f.Zones.length : Int) != 1) (some (0, 17)) (obind (restore_Next [c] f 0) fun r => sel r.snd (some (0, 20)) (some (r.fst, 0)))))) := by
  unfold restore_can restore_can.f
  rw [rcheck_E h c l h0 h1]
  rfl
/-- closing when it is too late, or ahead of the step before -/
theorem close_late {L D H n : Int} (h : EasyB L D H n) (c : T.Cut) (l : T.Span) {t : Int} (h0 : 0 ≤ t) (h1 : t ≤ 2147483648) (T1 : Int) (hT : t < T1 ∨ T1 < t - 600) :
    restore_Close (siteE L D H) [c] [l] (rcon T1) (feedE n) t = some (rcon T1, [c], feedE n, 8) := by
  have hl := feed_len n h.n1 h.n2
  have hc : restore_can (siteE L D H) [c] [l] (rcon T1) (feedE n) t = some (0, 8) := by
    rw [can_E h c l _ h0 h1, late_eq _ (by omega) (by omega)]
    have : (decide (t < (rcon T1).Time) || (decide ((rcon T1).Time < 0) || decide ((rcon T1).Time < t - 600))) = true := by
      rcases hT with hT | hT
      · have : decide (t < (rcon T1).Time) = true := decide_eq_true hT
        rw [this]; rfl
      · have : decide ((rcon T1).Time < t - 600) = true := decide_eq_true hT
        rw [this]; simp
    rw [this]
    rfl
  unfold restore_Close restore_Close.f
  rw [hc]
  rw [sel_pos (by simp), sel_pos (by simp only [List.length_nil, Nat.zero_add]; exact decide_eq_true (by omega)), sel_pos (by simp [feedE])]
  rfl
theorem late_nice {L D H n t u v : Int} (h : EasyB L D H n) (ht : 1000 ≤ t) (ht2 : t ≤ 2299) (hu : 0 ≤ u) (hu2 : u ≤ 999) (hv : t + 600 < v) (hv2 : v ≤ 100000) : lateNice (siteE L D H) (feedE n) t u v = some true := by
  have hl1 := h.l1; have hl2 := h.l2; have hh1 := h.h1; have hh2 := h.h2
  have hr : ∀ t, 1000 ≤ t → t ≤ 100000 → restore_ready (siteE L D H) [c0] [l0] 0 t = some 0 := fun t h0 h1 => by
    have := ready_fwd (cl := 0) (q := 300) (q2 := 300) (t := t) h (by omega) (by omega) (by omega) (by omega) (by omega) (by omega)
    rw [if_pos ⟨by omega, by omega⟩] at this
    exact this
  have hA : restore_Ask (siteE L D H) [c0] [l0] none0 0 0 1000 = some (rask 1000, 0) := by
    rw [rask_E h c0 l0 (by omega) (by omega), hr 1000 (by omega) (by omega)]
    rfl
  have hC2 : restore_Confirm (siteE L D H) [c0] [l0] (rask 1000) 1 u = some (rask 1000, 8) := by
    refine (rconfirm_E h c0 l0 (by omega) (by omega) 1000).trans ?_
    rw [late_eq _ (by omega) (by omega), decide_eq_true (show u < _ from by show u < 1000; omega)]
    rfl
  have hS := cuts_same
  have hF := feed_same n h.n1 h.n2
  have hN : restore_None () = some none0 := rfl
  have hW := awake_true
  unfold lateNice
  rw [hN, obind_some, hA, obind_some]
  by_cases h6 : t ≤ 1600
  · have hC1 : restore_Confirm (siteE L D H) [c0] [l0] (rask 1000) 1 t = some (rcon t, 0) := by
      refine (rconfirm_E h c0 l0 (by omega) (by omega) 1000).trans ?_
      rw [late_eq _ (by omega) (by omega), decide_eq_false (show ¬ t < _ from by show ¬ t < 1000; omega), decide_eq_false (show ¬ (_ : Int) < t - 600 from by show ¬ 1000 < t - 600; omega), hr t ht (by omega)]
      rfl
    have hK := close_late h c0 l0 (t := v) (by omega) (by omega) t (.inr (by omega))
    dsimp only
    rw [hC1, hC2]
    simp [obind_some, sel_t, sel_f, hK, hS, hF, hW, h6]
  · have hC1 : restore_Confirm (siteE L D H) [c0] [l0] (rask 1000) 1 t = some (rask 1000, 8) := by
      refine (rconfirm_E h c0 l0 (by omega) (by omega) 1000).trans ?_
      rw [late_eq _ (by omega) (by omega), decide_eq_true (show (_ : Int) < t - 600 from by show 1000 < t - 600; omega)]
      simp only [Bool.or_true]
      rfl
    dsimp only
    rw [hC1, hC2]
    simp [obind_some, sel_t, sel_f, hW, h6]
theorem late_true (zs : List Int) (wait early : Int) (h : ∀ z ∈ zs, 0 ≤ z ∧ z ≤ 255) (w0 : 0 ≤ wait) (w1 : wait ≤ 65535) (e0 : 0 ≤ early) (e1 : early ≤ 255) : law21_RestoreLate zs wait early = some true := by
  obtain ⟨c, x1, hc⟩ := new_ok h
  obtain ⟨L, D, H, n, a, l1, l2, d1, d2, h1, h2, n1, n2, x2, _⟩ := easy_ok hc
  unfold law21_RestoreLate law21_RestoreLate.f
  rw [x1, obind_some, x2]
  refine (late_scene L D H n a wait early n1 n2).trans ?_
  have m1 : 0 ≤ Int.tmod wait 1300 := Int.tmod_nonneg _ w0
  have m2 : Int.tmod wait 1300 < 1300 := Int.tmod_lt_of_pos _ (by omega)
  rw [w64_small (n := wait) (by omega) (by omega), w64_small (n := early) (by omega) (by omega)]
  generalize Int.tmod wait 1300 = m at m1 m2
  rw [w64_small (n := 1000 + m) (by omega) (by omega), w64_small (n := 999 - early) (by omega) (by omega), w64_small (n := 1000 + m + 600) (by omega) (by omega), w64_small (n := 1000 + m + 600 + 1) (by omega) (by omega), w64_small (n := 1000 + m + 600 + 1 + early) (by omega) (by omega)]
  exact late_nice (D := D) ⟨l1, l2, d1, d2, h1, h2, n1, n2⟩ (by omega) (by omega) (by omega) (by omega) (by omega) (by omega)
end Go.Proofs.Ytlhknehkcflkgaa
