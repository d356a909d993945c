/- The plain law of RestoreExact. -/
import Derived.Test.YtlhknehkcflkgaaPlLate
set_option autoImplicit false
set_option linter.unusedVariables false
set_option maxRecDepth 100000
namespace Go.Proofs.Ytlhknehkcflkgaa
open Go Ab
def cutE (cl : Int) : T.Cut := { Off := Bool.true, Clear := cl, Reason := 0 : T.Cut }
/-- the law behind the scene's making -/
noncomputable def exactNice (s : T.Site) (f : T.Feeder) (cl q q5 lo hi at_ a1 a6 a7 b2 b3 b5 : Int) : Option Bool :=
  sel (decide (0 < (↑s.Zones.length : Int))) (sel (decide (0 < (↑s.Air.Mine.Roads.length : Int))) (sel (q != 0) (obind (restore_Ready s [cutE cl] [{ Low := q, High := q5 : T.Span }] 0 at_) fun r3 => sel (r3 != 0) (some (Bool.false)) (obind (restore_Ready s [cutE cl] [{ Low := q, High := q5 : T.Span }] 0 a1) fun r5 => sel (r5 != 20) (some (Bool.false)) (obind (restore_Ready s [cutE cl] [{ Low := lo, High := hi : T.Span }] 0 at_) fun r7 => sel (r7 != 0) (some (Bool.false)) (obind (restore_Ready s [cutE cl] [{ Low := lo, High := hi : T.Span }] 0 a1) fun r9 => sel (r9 != 20) (some (Bool.false)) (obind (restore_None ()) fun r11 => obind (restore_Ask s [cutE cl] [{ Low := q, High := q5 : T.Span }] r11 0 0 at_) fun r12 => obind (restore_Confirm s [cutE cl] [{ Low := q, High := q5 : T.Span }] r12.fst 1 a6) fun r13 => obind (restore_Confirm s [cutE cl] [{ Low := q, High := q5 : T.Span }] r12.fst 1 a7) fun r14 => obind (restore_Close s [cutE cl] [{ Low := q, High := q5 : T.Span }] r13.fst f b2) fun r15 => obind (restore_Close s [cutE cl] [{ Low := q, High := q5 : T.Span }] r13.fst f b3) fun r16 => obind (restore_Close s [cutE cl] [{ Low := q, High := q5 : T.Span }] r13.fst f b5) fun r17 => sel (r12.snd == 0) (sel (r12.fst.Time == at_) (sel (r12.fst.Step == 1) (sel (r13.snd == 0) (sel (r13.fst.Time == a6) (sel (r13.fst.First == 0) (sel (r13.fst.Second == 1) (sel (r13.fst.Step == 2) (sel (r14.snd == 8) (sel (r15.snd.snd.snd == 0) (sel (r16.snd.snd.snd == 8) (sel (r17.snd.snd.snd == 8) (obind (law21_awake ()) fun r30 => some (r30)) (some (Bool.false))) (some (Bool.false))) (some (Bool.false))) (some (Bool.false))) (some (Bool.false))) (some (Bool.false))) (some (Bool.false))) (some (Bool.false))) (some (Bool.false))) (some (Bool.false))) (some (Bool.false))) (some (Bool.false))))))) (none)) (none)) (none)
noncomputable def exactTail (flow clear : Int) (r1 : T.Site × T.Feeder × T.draw_Codes) : Option Bool :=
  law21_RestoreExact.j0 K K (0, (↑r1.snd.fst.Switches.length : Int), r1.snd.fst.Reply, r1.snd.fst.Zones, r1.snd.fst.Switches, r1.fst.Persons, r1.fst.Zones, r1.fst.Conds, r1.fst.Sensors, r1.fst.Air.Doors, r1.fst.Air.Fans, r1.fst.Air.Mine.Roads, r1.fst.Air.Mine.Places, (), (), flow, clear)
theorem exact_scene0 (L D H a flow clear : Int) : obind (easyJ L D H 0 a) (exactTail flow clear) = exactNice (siteE L D H) (feedE 0) (w64 clear) (w64 (1 + Int.tmod (w64 flow) 9000)) (w64 (w64 (1 + Int.tmod (w64 flow) 9000) + 5)) (w64 (w64 (0 - w64 (1 + Int.tmod (w64 flow) 9000)) - 3)) (w64 (0 - w64 (1 + Int.tmod (w64 flow) 9000))) (w64 (w64 clear + mx H (w64 (Int.tdiv (w64 (w64 (w64 (w64 (w64 (1000 * L) * 4) * 1) + (w64 (1 + Int.tmod (w64 flow) 9000))) - 1)) (w64 (1 + Int.tmod (w64 flow) 9000)))))) (w64 (w64 (w64 clear + mx H (w64 (Int.tdiv (w64 (w64 (w64 (w64 (w64 (1000 * L) * 4) * 1) + (w64 (1 + Int.tmod (w64 flow) 9000))) - 1)) (w64 (1 + Int.tmod (w64 flow) 9000))))) - 1)) (w64 (w64 (w64 clear + mx H (w64 (Int.tdiv (w64 (w64 (w64 (w64 (w64 (1000 * L) * 4) * 1) + (w64 (1 + Int.tmod (w64 flow) 9000))) - 1)) (w64 (1 + Int.tmod (w64 flow) 9000))))) + 600)) (w64 (w64 (w64 (w64 clear + mx H (w64 (Int.tdiv (w64 (w64 (w64 (w64 (w64 (1000 * L) * 4) * 1) + (w64 (1 + Int.tmod (w64 flow) 9000))) - 1)) (w64 (1 + Int.tmod (w64 flow) 9000))))) + 600) + 1)) (w64 (w64 (w64 clear + mx H (w64 (Int.tdiv (w64 (w64 (w64 (w64 (w64 (1000 * L) * 4) * 1) + (w64 (1 + Int.tmod (w64 flow) 9000))) - 1)) (w64 (1 + Int.tmod (w64 flow) 9000))))) + 1200)) (w64 (w64 (w64 (w64 clear + mx H (w64 (Int.tdiv (w64 (w64 (w64 (w64 (w64 (1000 * L) * 4) * 1) + (w64 (1 + Int.tmod (w64 flow) 9000))) - 1)) (w64 (1 + Int.tmod (w64 flow) 9000))))) + 1200) + 1)) (w64 (w64 (w64 (w64 clear + mx H (w64 (Int.tdiv (w64 (w64 (w64 (w64 (w64 (1000 * L) * 4) * 1) + (w64 (1 + Int.tmod (w64 flow) 9000))) - 1)) (w64 (1 + Int.tmod (w64 flow) 9000))))) + 600) - 1)) := by kernel_rfl
theorem exact_scene1 (L D H a flow clear : Int) : obind (easyJ L D H 1 a) (exactTail flow clear) = exactNice (siteE L D H) (feedE 1) (w64 clear) (w64 (1 + Int.tmod (w64 flow) 9000)) (w64 (w64 (1 + Int.tmod (w64 flow) 9000) + 5)) (w64 (w64 (0 - w64 (1 + Int.tmod (w64 flow) 9000)) - 3)) (w64 (0 - w64 (1 + Int.tmod (w64 flow) 9000))) (w64 (w64 clear + mx H (w64 (Int.tdiv (w64 (w64 (w64 (w64 (w64 (1000 * L) * 4) * 1) + (w64 (1 + Int.tmod (w64 flow) 9000))) - 1)) (w64 (1 + Int.tmod (w64 flow) 9000)))))) (w64 (w64 (w64 clear + mx H (w64 (Int.tdiv (w64 (w64 (w64 (w64 (w64 (1000 * L) * 4) * 1) + (w64 (1 + Int.tmod (w64 flow) 9000))) - 1)) (w64 (1 + Int.tmod (w64 flow) 9000))))) - 1)) (w64 (w64 (w64 clear + mx H (w64 (Int.tdiv (w64 (w64 (w64 (w64 (w64 (1000 * L) * 4) * 1) + (w64 (1 + Int.tmod (w64 flow) 9000))) - 1)) (w64 (1 + Int.tmod (w64 flow) 9000))))) + 600)) (w64 (w64 (w64 (w64 clear + mx H (w64 (Int.tdiv (w64 (w64 (w64 (w64 (w64 (1000 * L) * 4) * 1) + (w64 (1 + Int.tmod (w64 flow) 9000))) - 1)) (w64 (1 + Int.tmod (w64 flow) 9000))))) + 600) + 1)) (w64 (w64 (w64 clear + mx H (w64 (Int.tdiv (w64 (w64 (w64 (w64 (w64 (1000 * L) * 4) * 1) + (w64 (1 + Int.tmod (w64 flow) 9000))) - 1)) (w64 (1 + Int.tmod (w64 flow) 9000))))) + 1200)) (w64 (w64 (w64 (w64 clear + mx H (w64 (Int.tdiv (w64 (w64 (w64 (w64 (w64 (1000 * L) * 4) * 1) + (w64 (1 + Int.tmod (w64 flow) 9000))) - 1)) (w64 (1 + Int.tmod (w64 flow) 9000))))) + 1200) + 1)) (w64 (w64 (w64 (w64 clear + mx H (w64 (Int.tdiv (w64 (w64 (w64 (w64 (w64 (1000 * L) * 4) * 1) + (w64 (1 + Int.tmod (w64 flow) 9000))) - 1)) (w64 (1 + Int.tmod (w64 flow) 9000))))) + 600) - 1)) := by kernel_rfl
theorem exact_scene2 (L D H a flow clear : Int) : obind (easyJ L D H 2 a) (exactTail flow clear) = exactNice (siteE L D H) (feedE 2) (w64 clear) (w64 (1 + Int.tmod (w64 flow) 9000)) (w64 (w64 (1 + Int.tmod (w64 flow) 9000) + 5)) (w64 (w64 (0 - w64 (1 + Int.tmod (w64 flow) 9000)) - 3)) (w64 (0 - w64 (1 + Int.tmod (w64 flow) 9000))) (w64 (w64 clear + mx H (w64 (Int.tdiv (w64 (w64 (w64 (w64 (w64 (1000 * L) * 4) * 1) + (w64 (1 + Int.tmod (w64 flow) 9000))) - 1)) (w64 (1 + Int.tmod (w64 flow) 9000)))))) (w64 (w64 (w64 clear + mx H (w64 (Int.tdiv (w64 (w64 (w64 (w64 (w64 (1000 * L) * 4) * 1) + (w64 (1 + Int.tmod (w64 flow) 9000))) - 1)) (w64 (1 + Int.tmod (w64 flow) 9000))))) - 1)) (w64 (w64 (w64 clear + mx H (w64 (Int.tdiv (w64 (w64 (w64 (w64 (w64 (1000 * L) * 4) * 1) + (w64 (1 + Int.tmod (w64 flow) 9000))) - 1)) (w64 (1 + Int.tmod (w64 flow) 9000))))) + 600)) (w64 (w64 (w64 (w64 clear + mx H (w64 (Int.tdiv (w64 (w64 (w64 (w64 (w64 (1000 * L) * 4) * 1) + (w64 (1 + Int.tmod (w64 flow) 9000))) - 1)) (w64 (1 + Int.tmod (w64 flow) 9000))))) + 600) + 1)) (w64 (w64 (w64 clear + mx H (w64 (Int.tdiv (w64 (w64 (w64 (w64 (w64 (1000 * L) * 4) * 1) + (w64 (1 + Int.tmod (w64 flow) 9000))) - 1)) (w64 (1 + Int.tmod (w64 flow) 9000))))) + 1200)) (w64 (w64 (w64 (w64 clear + mx H (w64 (Int.tdiv (w64 (w64 (w64 (w64 (w64 (1000 * L) * 4) * 1) + (w64 (1 + Int.tmod (w64 flow) 9000))) - 1)) (w64 (1 + Int.tmod (w64 flow) 9000))))) + 1200) + 1)) (w64 (w64 (w64 (w64 clear + mx H (w64 (Int.tdiv (w64 (w64 (w64 (w64 (w64 (1000 * L) * 4) * 1) + (w64 (1 + Int.tmod (w64 flow) 9000))) - 1)) (w64 (1 + Int.tmod (w64 flow) 9000))))) + 600) - 1)) := by kernel_rfl
theorem exact_scene (L D H n a flow clear : Int) (h1 : 0 ≤ n) (h2 : n ≤ 2) : obind (easyJ L D H n a) (exactTail flow clear) = exactNice (siteE L D H) (feedE n) (w64 clear) (w64 (1 + Int.tmod (w64 flow) 9000)) (w64 (w64 (1 + Int.tmod (w64 flow) 9000) + 5)) (w64 (w64 (0 - w64 (1 + Int.tmod (w64 flow) 9000)) - 3)) (w64 (0 - w64 (1 + Int.tmod (w64 flow) 9000))) (w64 (w64 clear + mx H (w64 (Int.tdiv (w64 (w64 (w64 (w64 (w64 (1000 * L) * 4) * 1) + (w64 (1 + Int.tmod (w64 flow) 9000))) - 1)) (w64 (1 + Int.tmod (w64 flow) 9000)))))) (w64 (w64 (w64 clear + mx H (w64 (Int.tdiv (w64 (w64 (w64 (w64 (w64 (1000 * L) * 4) * 1) + (w64 (1 + Int.tmod (w64 flow) 9000))) - 1)) (w64 (1 + Int.tmod (w64 flow) 9000))))) - 1)) (w64 (w64 (w64 clear + mx H (w64 (Int.tdiv (w64 (w64 (w64 (w64 (w64 (1000 * L) * 4) * 1) + (w64 (1 + Int.tmod (w64 flow) 9000))) - 1)) (w64 (1 + Int.tmod (w64 flow) 9000))))) + 600)) (w64 (w64 (w64 (w64 clear + mx H (w64 (Int.tdiv (w64 (w64 (w64 (w64 (w64 (1000 * L) * 4) * 1) + (w64 (1 + Int.tmod (w64 flow) 9000))) - 1)) (w64 (1 + Int.tmod (w64 flow) 9000))))) + 600) + 1)) (w64 (w64 (w64 clear + mx H (w64 (Int.tdiv (w64 (w64 (w64 (w64 (w64 (1000 * L) * 4) * 1) + (w64 (1 + Int.tmod (w64 flow) 9000))) - 1)) (w64 (1 + Int.tmod (w64 flow) 9000))))) + 1200)) (w64 (w64 (w64 (w64 clear + mx H (w64 (Int.tdiv (w64 (w64 (w64 (w64 (w64 (1000 * L) * 4) * 1) + (w64 (1 + Int.tmod (w64 flow) 9000))) - 1)) (w64 (1 + Int.tmod (w64 flow) 9000))))) + 1200) + 1)) (w64 (w64 (w64 (w64 clear + mx H (w64 (Int.tdiv (w64 (w64 (w64 (w64 (w64 (1000 * L) * 4) * 1) + (w64 (1 + Int.tmod (w64 flow) 9000))) - 1)) (w64 (1 + Int.tmod (w64 flow) 9000))))) + 600) - 1)) := by
  have : n = 0 ∨ n = 1 ∨ n = 2 := by omega
  rcases this with rfl | rfl | rfl
  · exact exact_scene0 ..
  · exact exact_scene1 ..
  · exact exact_scene2 ..
theorem Ready_E {L D H n : Int} (h : EasyB L D H n) (c : T.Cut) (l : T.Span) {t : Int} (h0 : 0 ≤ t) (h1 : t ≤ 2147483648) : restore_Ready (siteE L D H) [c] [l] 0 t = obind (restore_ready (siteE L D H) [c] [l] 0 t) fun e => some e := by
  unfold restore_Ready restore_Ready.f
  rw [rcheck_E h c l h0 h1]
  rfl
theorem next_E0 (cl : Int) : restore_Next [cutE cl] (feedE 0) 0 = some (0, false) := by kernel_rfl
theorem next_E1 (cl : Int) : restore_Next [cutE cl] (feedE 1) 0 = some (0, false) := by kernel_rfl
theorem next_E2 (cl : Int) : restore_Next [cutE cl] (feedE 2) 0 = some (0, false) := by kernel_rfl
theorem fcheck_E0 : feeder_Check (feedE 0) = some 0 := by kernel_rfl
theorem fcheck_E1 : feeder_Check (feedE 1) = some 0 := by kernel_rfl
theorem fcheck_E2 : feeder_Check (feedE 2) = some 0 := by kernel_rfl
theorem timely_E0 (t : Int) : feeder_timely (feedE 0) t = sel (decide (t < 0)) (some false) (sel (decide (t > 2147483648)) (some false) (sel (decide (t < 0)) (some false) (some true))) := by kernel_rfl
theorem timely_E1 (t : Int) : feeder_timely (feedE 1) t = sel (decide (t < 0)) (some false) (sel (decide (t > 2147483648)) (some false) (sel (decide (t < 0)) (some false) (sel (decide (t < 0)) (some false) (some true)))) := by kernel_rfl
theorem timely_E2 (t : Int) : feeder_timely (feedE 2) t = sel (decide (t < 0)) (some false) (sel (decide (t > 2147483648)) (some false) (sel (decide (t < 0)) (some false) (sel (decide (t < 0)) (some false) (sel (decide (t < 0)) (some false) (some true))))) := by kernel_rfl
/-- the network when its first switch has been told to close -/
def shutE (n t : Int) : T.Feeder := { Switches := (swE n).set 0 { Above := -1, Since := t, Shown := 0, Closed := Bool.true, Late := Bool.false : T.Switch }, Zones := [n], Reply := 3 }
theorem fclose_E0 (t : Int) : feeder_Close (feedE 0) 0 t = obind (feeder_can (feedE 0) 0 t) fun r0 => sel (r0 != 0) (some (({ Switches := [], Zones := [], Reply := 0 : T.Feeder }, r0))) (some (shutE 0 t, 0)) := by kernel_rfl
theorem fclose_E1 (t : Int) : feeder_Close (feedE 1) 0 t = obind (feeder_can (feedE 1) 0 t) fun r0 => sel (r0 != 0) (some (({ Switches := [], Zones := [], Reply := 0 : T.Feeder }, r0))) (some (shutE 1 t, 0)) := by kernel_rfl
theorem fclose_E2 (t : Int) : feeder_Close (feedE 2) 0 t = obind (feeder_can (feedE 2) 0 t) fun r0 => sel (r0 != 0) (some (({ Switches := [], Zones := [], Reply := 0 : T.Feeder }, r0))) (some (shutE 2 t, 0)) := by kernel_rfl
theorem fcan_E0 (t : Int) : feeder_can (feedE 0) 0 t = obind (feeder_timely (feedE 0) t) fun b => sel (!b) (some 8) (some 0) := by kernel_rfl
theorem fcan_E1 (t : Int) : feeder_can (feedE 1) 0 t = obind (feeder_timely (feedE 1) t) fun b => sel (!b) (some 8) (some 0) := by kernel_rfl
theorem fcan_E2 (t : Int) : feeder_can (feedE 2) 0 t = obind (feeder_timely (feedE 2) t) fun b => sel (!b) (some 8) (some 0) := by kernel_rfl
structure FeedOk (n : Int) (cl t : Int) : Prop where
  next : restore_Next [cutE cl] (feedE n) 0 = some (0, false)
  check : feeder_Check (feedE n) = some 0
  close : feeder_Close (feedE n) 0 t = some (shutE n t, 0)
theorem feed_ok {n : Int} (h1 : 0 ≤ n) (h2 : n ≤ 2) (cl : Int) {t : Int} (h3 : 0 ≤ t) (h4 : t ≤ 2147483648) : FeedOk n cl t := by
  have e1 : decide (t < 0) = false := decide_eq_false (by omega)
  have e2 : decide (t > 2147483648) = false := decide_eq_false (by omega)
  have : n = 0 ∨ n = 1 ∨ n = 2 := by omega
  rcases this with rfl | rfl | rfl
  · exact ⟨next_E0 cl, fcheck_E0, by rw [fclose_E0, fcan_E0, timely_E0, e1, e2]; rfl⟩
  · exact ⟨next_E1 cl, fcheck_E1, by rw [fclose_E1, fcan_E1, timely_E1, e1, e2]; rfl⟩
  · exact ⟨next_E2 cl, fcheck_E2, by rw [fclose_E2, fcan_E2, timely_E2, e1, e2]; rfl⟩
/-- closing in time -/
theorem close_ok {L D H n cl : Int} (h : EasyB L D H n) (l : T.Span) {t : Int} (h0 : 0 ≤ t) (h1 : t ≤ 2147483648) (T1 : Int) (hT0 : 0 ≤ T1) (hT : T1 ≤ t) (hT2 : t - 600 ≤ T1) (hr : restore_ready (siteE L D H) [cutE cl] [l] 0 t = some 0) :
    ∃ x y z, restore_Close (siteE L D H) [cutE cl] [l] (rcon T1) (feedE n) t = some (x, y, z, 0) := by
  have hl := feed_len n h.n1 h.n2
  have hF := feed_ok h.n1 h.n2 cl h0 h1
  have hc : restore_can (siteE L D H) [cutE cl] [l] (rcon T1) (feedE n) t = some (0, 0) := by
    rw [can_E h _ l _ h0 h1, late_eq _ (by omega) (by omega)]
    have e1 : decide (t < (rcon T1).Time) = false := decide_eq_false (by show ¬ t < T1; omega)
    have e2 : decide ((rcon T1).Time < t - 600) = false := decide_eq_false (by show ¬ T1 < t - 600; omega)
    have e3 : decide ((rcon T1).Time < 0) = false := decide_eq_false (by show ¬ T1 < 0; omega)
    rw [e1, e2, e3, hr, hF.check, hF.next]
    rfl
  unfold restore_Close restore_Close.f
  rw [hc]
  rw [sel_pos (by simp), sel_pos (by simp only [List.length_nil, Nat.zero_add]; exact decide_eq_true (by omega)), sel_pos (by simp [feedE])]
  rw [obind_some]
  dsimp only
  rw [hF.close]
  have hn1 := h.n1; have hn2 := h.n2
  have : n = 0 ∨ n = 1 ∨ n = 2 := by omega
  rcases this with rfl | rfl | rfl
  · exact ⟨_, _, _, rfl⟩
  · exact ⟨_, _, _, rfl⟩
  · exact ⟨_, _, _, rfl⟩
theorem exact_nice {L D H n cl q at_ : Int} (h : EasyB L D H n) (hcl : 0 ≤ cl) (hcl2 : cl ≤ 255) (hq : 1 ≤ q) (hq2 : q ≤ 9000) (hat : cl + H ≤ at_) (hat2 : at_ ≤ 20000) (hy : rdy L H cl q at_) (hn : ¬ rdy L H cl q (at_ - 1)) :
    exactNice (siteE L D H) (feedE n) cl q (q + 5) (-(q + 3)) (-q) at_ (at_ - 1) (at_ + 600) (at_ + 601) (at_ + 1200) (at_ + 1201) (at_ + 599) = some true := by
  have hl1 := h.l1; have hl2 := h.l2; have hh1 := h.h1; have hh2 := h.h2
  have later : ∀ t, at_ ≤ t → rdy L H cl q t := fun t ht => ⟨by have := hy.1; omega, by
    have h2 := hy.2
    have : q * (at_ - cl) ≤ q * (t - cl) := Int.mul_le_mul_of_nonneg_left (by omega) (by omega)
    omega⟩
  have rf : ∀ t, at_ ≤ t → t ≤ 100000 → restore_ready (siteE L D H) [cutE cl] [{ Low := q, High := q + 5 : T.Span }] 0 t = some 0 := fun t h0 h1 => by
    have := ready_fwd (cl := cl) (q := q) (q2 := q + 5) (t := t) h hcl (by omega) hq (by omega) (by omega) (by omega)
    rw [if_pos (later t h0)] at this
    exact this
  have rf1 : restore_ready (siteE L D H) [cutE cl] [{ Low := q, High := q + 5 : T.Span }] 0 (at_ - 1) = some 20 := by
    have := ready_fwd (cl := cl) (q := q) (q2 := q + 5) (t := at_ - 1) h hcl (by omega) hq (by omega) (by omega) (by omega)
    rw [if_neg hn] at this
    exact this
  have rb : restore_ready (siteE L D H) [cutE cl] [{ Low := -(q + 3), High := -q : T.Span }] 0 at_ = some 0 := by
    have := ready_back (cl := cl) (q := q) (q2 := q + 3) (t := at_) h hcl (by omega) hq (by omega) (by omega) (by omega)
    rw [if_pos hy] at this
    exact this
  have rb1 : restore_ready (siteE L D H) [cutE cl] [{ Low := -(q + 3), High := -q : T.Span }] 0 (at_ - 1) = some 20 := by
    have := ready_back (cl := cl) (q := q) (q2 := q + 3) (t := at_ - 1) h hcl (by omega) hq (by omega) (by omega) (by omega)
    rw [if_neg hn] at this
    exact this
  have R1 : restore_Ready (siteE L D H) [cutE cl] [{ Low := q, High := q + 5 : T.Span }] 0 at_ = some 0 := by rw [Ready_E h _ _ (by omega) (by omega), rf at_ (by omega) (by omega)]; rfl
  have R2 : restore_Ready (siteE L D H) [cutE cl] [{ Low := q, High := q + 5 : T.Span }] 0 (at_ - 1) = some 20 := by rw [Ready_E h _ _ (by omega) (by omega), rf1]; rfl
  have R3 : restore_Ready (siteE L D H) [cutE cl] [{ Low := -(q + 3), High := -q : T.Span }] 0 at_ = some 0 := by rw [Ready_E h _ _ (by omega) (by omega), rb]; rfl
  have R4 : restore_Ready (siteE L D H) [cutE cl] [{ Low := -(q + 3), High := -q : T.Span }] 0 (at_ - 1) = some 20 := by rw [Ready_E h _ _ (by omega) (by omega), rb1]; rfl
  have hA : restore_Ask (siteE L D H) [cutE cl] [{ Low := q, High := q + 5 : T.Span }] none0 0 0 at_ = some (rask at_, 0) := by
    rw [rask_E h _ _ (by omega) (by omega), rf at_ (by omega) (by omega)]
    rfl
  have hC1 : restore_Confirm (siteE L D H) [cutE cl] [{ Low := q, High := q + 5 : T.Span }] (rask at_) 1 (at_ + 600) = some (rcon (at_ + 600), 0) := by
    refine (rconfirm_E h _ _ (by omega) (by omega) at_).trans ?_
    rw [late_eq _ (by omega) (by omega), decide_eq_false (show ¬ at_ + 600 < _ from by show ¬ at_ + 600 < at_; omega), decide_eq_false (show ¬ _ < (0 : Int) from by show ¬ at_ < 0; omega), decide_eq_false (show ¬ _ < at_ + 600 - 600 from by show ¬ at_ < at_ + 600 - 600; omega), rf (at_ + 600) (by omega) (by omega)]
    rfl
  have hC2 : restore_Confirm (siteE L D H) [cutE cl] [{ Low := q, High := q + 5 : T.Span }] (rask at_) 1 (at_ + 601) = some (rask at_, 8) := by
    refine (rconfirm_E h _ _ (by omega) (by omega) at_).trans ?_
    rw [late_eq _ (by omega) (by omega), decide_eq_true (show _ < at_ + 601 - 600 from by show at_ < at_ + 601 - 600; omega)]
    simp only [Bool.or_true]
    rfl
  obtain ⟨x, y, z, hK1⟩ := close_ok (n := n) (cl := cl) h { Low := q, High := q + 5 : T.Span } (t := at_ + 1200) (by omega) (by omega) (at_ + 600) (by omega) (by omega) (by omega) (rf _ (by omega) (by omega))
  have hK2 := close_late h (cutE cl) { Low := q, High := q + 5 : T.Span } (t := at_ + 1201) (by omega) (by omega) (at_ + 600) (.inr (by omega))
  have hK3 := close_late h (cutE cl) { Low := q, High := q + 5 : T.Span } (t := at_ + 599) (by omega) (by omega) (at_ + 600) (.inl (by omega))
  have hN : restore_None () = some none0 := rfl
  have hW := awake_true
  have hz : (decide (0 < ((siteE L D H).Zones.length : Int))) = true := rfl
  have hd : (decide (0 < ((siteE L D H).Air.Mine.Roads.length : Int))) = true := rfl
  have hq0 : (q != 0) = true := by simp; omega
  unfold exactNice
  rw [hz, hd, hq0, sel_t, sel_t, sel_t, R1, R2, R3, R4]
  simp [obind_some, sel_t, sel_f, hN, hA, hC1, hC2, hK1, hK2, hK3, hW]
  simp [rask, rcon, sel_t]
theorem exact_true (zs : List Int) (flow clear : Int) (h : ∀ z ∈ zs, 0 ≤ z ∧ z ≤ 255) (w0 : 0 ≤ flow) (w1 : flow ≤ 65535) (e0 : 0 ≤ clear) (e1 : clear ≤ 255) : law21_RestoreExact zs flow clear = some true := by
  obtain ⟨c, x1, hc⟩ := new_ok h
  obtain ⟨L, D, H, n, a, l1, l2, d1, d2, h1, h2, n1, n2, x2, _⟩ := easy_ok hc
  unfold law21_RestoreExact law21_RestoreExact.f
  rw [x1, obind_some, x2]
  refine (exact_scene L D H n a flow clear n1 n2).trans ?_
  have m1 : 0 ≤ Int.tmod flow 9000 := Int.tmod_nonneg _ w0
  have m2 : Int.tmod flow 9000 < 9000 := Int.tmod_lt_of_pos _ (by omega)
  rw [w64_small (n := flow) (by omega) (by omega), w64_small (n := clear) (by omega) (by omega)]
  generalize Int.tmod flow 9000 = m at m1 m2
  rw [w64_small (n := 1 + m) (by omega) (by omega)]
  generalize hq : 1 + m = q
  rw [w64_small (n := 1000 * L) (by omega) (by omega), w64_small (n := 1000 * L * 4) (by omega) (by omega), w64_small (n := 1000 * L * 4 * 1) (by omega) (by omega), w64_small (n := 1000 * L * 4 * 1 + q) (by omega) (by omega), w64_small (n := 1000 * L * 4 * 1 + q - 1) (by omega) (by omega)]
  have e : 1000 * L * 4 * 1 = 4000 * L := by omega
  rw [e]
  have hb0 : 0 ≤ Int.tdiv (4000 * L + q - 1) q ∧ Int.tdiv (4000 * L + q - 1) q ≤ 16000 := by
    refine ⟨(tdiv_bound (by omega) (by omega) (by omega)).1, ?_⟩
    refine (ceil_le (by omega) (by omega)).2 ?_
    have : 16000 * 1 ≤ 16000 * q := Int.mul_le_mul_of_nonneg_left (by omega) (by omega)
    omega
  have hc1 := ceil_le (a := 4000 * L) (s := q) (q := mx H (Int.tdiv (4000 * L + q - 1) q)) (by omega) (by omega)
  have hc2 := ceil_le (a := 4000 * L) (s := q) (q := mx H (Int.tdiv (4000 * L + q - 1) q) - 1) (by omega) (by omega)
  generalize Int.tdiv (4000 * L + q - 1) q = w at hb0 hc1 hc2
  rw [w64_small (n := w) (by omega) (by omega)]
  have hm : H ≤ mx H w ∧ w ≤ mx H w ∧ (mx H w = H ∨ mx H w = w) := by unfold mx; split <;> omega
  generalize mx H w = v at hm hc1 hc2
  obtain ⟨hm1, hm2, hm3⟩ := hm
  rw [w64_small (n := clear + v) (by omega) (by omega), w64_small (n := q + 5) (by omega) (by omega), w64_small (n := 0 - q) (by omega) (by omega), w64_small (n := 0 - q - 3) (by omega) (by omega), w64_small (n := clear + v - 1) (by omega) (by omega), w64_small (n := clear + v + 600) (by omega) (by omega), w64_small (n := clear + v + 600 + 1) (by omega) (by omega), w64_small (n := clear + v + 600 - 1) (by omega) (by omega), w64_small (n := clear + v + 1200) (by omega) (by omega), w64_small (n := clear + v + 1200 + 1) (by omega) (by omega)]
  have hN := exact_nice (L := L) (D := D) (H := H) (n := n) (cl := clear) (q := q) (at_ := clear + v) ⟨l1, l2, d1, d2, h1, h2, n1, n2⟩ e0 e1 (by omega) (by omega) (by omega) (by omega)
    ⟨by omega, by
      have := hc1.1 hm2
      rw [show clear + v - clear = v by omega, Int.mul_comm q v]
      exact this⟩
    (fun hr => by
      have hr1 := hr.1
      have hr2 := hr.2
      rw [show clear + v - 1 - clear = v - 1 by omega, Int.mul_comm q (v - 1)] at hr2
      have := hc2.2 hr2
      omega)
  rw [show (0 : Int) - q - 3 = -(q + 3) by omega, show (0 : Int) - q = -q by omega, show clear + v + 600 + 1 = clear + v + 601 by omega, show clear + v + 600 - 1 = clear + v + 599 by omega, show clear + v + 1200 + 1 = clear + v + 1201 by omega]
  exact hN
end Go.Proofs.Ytlhknehkcflkgaa
