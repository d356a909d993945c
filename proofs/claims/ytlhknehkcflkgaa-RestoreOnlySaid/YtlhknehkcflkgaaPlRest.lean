/- What the restoration functions answer over an easy site, whatever the times. -/
import Derived.Test.YtlhknehkcflkgaaPlTop
set_option autoImplicit false
set_option linter.unusedVariables false
set_option maxRecDepth 100000
namespace Go.Proofs.Ytlhknehkcflkgaa
open Go Ab
noncomputable def siteE (L D H : Int) : T.Site :=
  { Air := { Mine := { Places := [{ Height := 0, Surface := Bool.true : T.Place }, { Height := 0, Surface := Bool.true : T.Place }], Roads := [{ From := 0, To := 1, Length := L, Area := 4, Walk := Bool.false, Closed := Bool.false, Rest := { Low := 1, High := 1 : T.Span }, Lift := { Low := 90000, High := 90000 : T.Span } : T.Road }] : T.Mine }, Fans := [], Doors := [] : T.Air }
    Sensors := [{ Address := 0, Kind := 1, Target := 0, Offset := 0, Scale := 1000, Error := 1, Drift := 1000, Life := 60 : T.Sensor }]
    Conds := [{ Kind := 1, Target := 0, Value := 0, Level := { Cut := 100, Clear := 60, Delay := D : T.Level } : T.Cond }]
    Zones := [{ Rule := [{ Kind := 1, Cond := 0, Left := 0, Right := 0 : T.RuleNode }], Hold := H, Roads := [0], Fresh := 1 : T.Zone }]
    Persons := [{ Role := 1 : T.Person }, { Role := 2 : T.Person }] : T.Site }
/-- the switches in a row, all known to be open -/
def swE (n : Int) : List T.Switch := (List.range (n.toNat + 1)).map fun (i : Nat) => { Above := (i : Int) - 1, Since := 0, Shown := -1, Closed := Bool.false, Late := Bool.false : T.Switch }
def feedE (n : Int) : T.Feeder := { Switches := swE n, Zones := [n], Reply := 3 }
structure EasyB (L D H n : Int) : Prop where
  l1 : 1 ≤ L
  l2 : L ≤ 4
  d1 : 1 ≤ D
  d2 : D ≤ 5
  h1 : 1 ≤ H
  h2 : H ≤ 5
  n1 : 0 ≤ n
  n2 : n ≤ 2
def isZ : Option Int → Bool
  | some z => z == 0
  | none => false
theorem isZ_eq {x : Option Int} (h : isZ x = true) : x = some 0 := by
  unfold isZ at h
  split at h
  · rename_i z; rw [eq_of_beq h]
  · cases h
theorem check_all : (([1, 2, 3, 4] : List Int).all fun L => ([1, 2, 3, 4, 5] : List Int).all fun D => ([1, 2, 3, 4, 5] : List Int).all fun H => isZ (cutoff_Check (siteE L D H))) = true := by kernel_rfl
theorem cutoff_E {L D H n : Int} (h : EasyB L D H n) : cutoff_Check (siteE L D H) = some 0 := by
  obtain ⟨l1, l2, d1, d2, h1, h2, n1, n2⟩ := h
  have h0 := check_all
  rw [List.all_eq_true] at h0
  have h3 := h0 L (by simp; omega)
  rw [List.all_eq_true] at h3
  have h4 := h3 D (by simp; omega)
  rw [List.all_eq_true] at h4
  exact isZ_eq (h4 H (by simp; omega))
theorem rcheck_E {L D H n : Int} (h : EasyB L D H n) (c : T.Cut) (l : T.Span) {t : Int} (h0 : 0 ≤ t) (h1 : t ≤ 2147483648) : restore_check (siteE L D H) [c] [l] t = some 0 := by
  unfold restore_check restore_check.f
  rw [cutoff_E h]
  change sel (decide (t < 0)) (some 8) (sel (decide (t > 2147483648)) (some 8) (some 0)) = some 0
  rw [sel_neg (decide_eq_false (by omega)), sel_neg (decide_eq_false (by omega))]
def none0 : T.Restoring := { Zone := -1, First := -1, Second := -1, Step := 0, Time := 0 }
theorem rask_E {L D H n : Int} (h : EasyB L D H n) (c : T.Cut) (l : T.Span) {t : Int} (h0 : 0 ≤ t) (h1 : t ≤ 2147483648) :
    restore_Ask (siteE L D H) [c] [l] none0 0 0 t = obind (restore_ready (siteE L D H) [c] [l] 0 t) fun e => sel (e != 0) (some (none0, e)) (some ({ Zone := 0, First := 0, Second := -1, Step := 1, Time := t : T.Restoring }, 0)) := by
  unfold restore_Ask restore_Ask.f
  rw [rcheck_E h c l h0 h1]
  rfl
theorem rconfirm_E {L D H n : Int} (h : EasyB L D H n) (c : T.Cut) (l : T.Span) {t : Int} (h0 : 0 ≤ t) (h1 : t ≤ 2147483648) (T0 : Int) :
    restore_Confirm (siteE L D H) [c] [l] { Zone := 0, First := 0, Second := -1, Step := 1, Time := T0 : T.Restoring } 1 t = obind (restore_late { Zone := 0, First := 0, Second := -1, Step := 1, Time := T0 : T.Restoring } t) fun b => sel b (some ({ Zone := 0, First := 0, Second := -1, Step := 1, Time := T0 : T.Restoring }, 8)) (obind (restore_ready (siteE L D H) [c] [l] 0 t) fun e => sel (e != 0) (some ({ Zone := 0, First := 0, Second := -1, Step := 1, Time := T0 : T.Restoring }, e)) (some ({ Zone := 0, First := 0, Second := 1, Step := 2, Time := t : T.Restoring }, 0))) := by
  unfold restore_Confirm restore_Confirm.f
  rw [rcheck_E h c l h0 h1]
  rfl
theorem late_eq (r : T.Restoring) {t : Int} (h0 : -1000000000 ≤ t) (h1 : t ≤ 5000000000) : restore_late r t = some (decide (t < r.Time) || (decide (r.Time < 0) || decide (r.Time < t - 600))) := by
  unfold restore_late restore_late.f
  rw [w64_small (by omega) (by omega)]
  cases decide (t < r.Time) <;> cases decide (r.Time < 0) <;> rfl
/-- the road's air is changed within so many seconds by such a flow -/
theorem ceil_le {a q s : Int} (hs : 1 ≤ s) (ha : 0 ≤ a) : (Int.tdiv (a + s - 1) s ≤ q) ↔ a ≤ q * s := by
  rw [Int.tdiv_eq_ediv_of_nonneg (by omega)]
  have e1 := Int.mul_ediv_add_emod (a + s - 1) s
  have e2 := Int.emod_nonneg (a + s - 1) (show s ≠ 0 by omega)
  have e3 := Int.emod_lt_of_pos (a + s - 1) (show 0 < s by omega)
  generalize (a + s - 1) / s = d at *
  generalize (a + s - 1) % s = m at *
  constructor
  · intro h
    have : s * d ≤ s * q := Int.mul_le_mul_of_nonneg_left h (by omega)
    rw [Int.mul_comm q s]
    omega
  · intro h
    by_cases hd : d ≤ q
    · exact hd
    · have : s * (q + 1) ≤ s * d := Int.mul_le_mul_of_nonneg_left (by omega) (by omega)
      rw [Int.mul_add, Int.mul_one] at this
      rw [Int.mul_comm q s] at h
      omega
theorem tdiv_bound {a s : Int} (hs : 1 ≤ s) (ha : 0 ≤ a) (hb : a ≤ 100000000) : 0 ≤ Int.tdiv a s ∧ Int.tdiv a s ≤ 100000000 := by
  rw [Int.tdiv_eq_ediv_of_nonneg ha]
  have := Int.ediv_nonneg ha (show 0 ≤ s by omega)
  have := Int.ediv_le_self s ha
  omega
noncomputable def roadE (L : Int) : T.Road := { From := 0, To := 1, Length := L, Area := 4, Walk := Bool.false, Closed := Bool.false, Rest := { Low := 1, High := 1 : T.Span }, Lift := { Low := 90000, High := 90000 : T.Span } : T.Road }
theorem changed_fwd {L q q2 s : Int} (h1 : 1 ≤ L) (h2 : L ≤ 4) (hq : 1 ≤ q) (hq2 : q ≤ q2) (hs : 1 ≤ s) (hs2 : s ≤ 10000000) :
    restore_changed (roadE L) { Low := q, High := q2 } 1 s = some (decide (4000 * L ≤ q * s)) := by
  unfold restore_changed restore_changed.f roadE
  dsimp only
  rw [w64_small (n := 1000 * L) (by omega) (by omega), w64_small (n := 1000 * L * 4) (by omega) (by omega), w64_small (n := 1000 * L * 4 * 1) (by omega) (by omega), w64_small (n := 1000 * L * 4 * 1 + s) (by omega) (by omega), w64_small (n := 1000 * L * 4 * 1 + s - 1) (by omega) (by omega)]
  have hb := tdiv_bound (a := 1000 * L * 4 * 1 + s - 1) hs (by omega) (by omega)
  rw [w64_small (n := Int.tdiv (1000 * L * 4 * 1 + s - 1) s) (by omega) (by omega)]
  have hc := ceil_le (a := 1000 * L * 4 * 1) (q := q) hs (by omega)
  have e : 1000 * L * 4 * 1 = 4000 * L := by omega
  rw [e] at hc ⊢
  rw [sel_neg (by simp; omega), sel_neg (by simp; omega), sel_pos (by simp; omega)]
  have hd : airflow_Direction { Low := q, High := q2 } = some 1 := by
    unfold airflow_Direction airflow_Direction.f
    dsimp only
    rw [sel_neg (by simp; omega), sel_pos (by simp; omega)]
  rw [hd]
  change some (decide (q ≥ Int.tdiv (4000 * L + s - 1) s)) = _
  congr 1
  exact decide_eq_decide.2 hc
theorem changed_back {L q q2 s : Int} (h1 : 1 ≤ L) (h2 : L ≤ 4) (hq : 1 ≤ q) (hq2 : q ≤ q2) (hs : 1 ≤ s) (hs2 : s ≤ 10000000) :
    restore_changed (roadE L) { Low := -q2, High := -q } 1 s = some (decide (4000 * L ≤ q * s)) := by
  unfold restore_changed restore_changed.f roadE
  dsimp only
  rw [w64_small (n := 1000 * L) (by omega) (by omega), w64_small (n := 1000 * L * 4) (by omega) (by omega), w64_small (n := 1000 * L * 4 * 1) (by omega) (by omega), w64_small (n := 1000 * L * 4 * 1 + s) (by omega) (by omega), w64_small (n := 1000 * L * 4 * 1 + s - 1) (by omega) (by omega)]
  have hb := tdiv_bound (a := 1000 * L * 4 * 1 + s - 1) hs (by omega) (by omega)
  rw [w64_small (n := Int.tdiv (1000 * L * 4 * 1 + s - 1) s) (by omega) (by omega), w64_small (n := 0 - Int.tdiv (1000 * L * 4 * 1 + s - 1) s) (by omega) (by omega)]
  have hc := ceil_le (a := 1000 * L * 4 * 1) (q := q) hs (by omega)
  have e : 1000 * L * 4 * 1 = 4000 * L := by omega
  rw [e] at hc ⊢
  rw [sel_neg (by simp; omega), sel_neg (by simp; omega), sel_pos (by simp; omega)]
  have hd : airflow_Direction { Low := -q2, High := -q } = some (-1) := by
    unfold airflow_Direction airflow_Direction.f
    dsimp only
    rw [sel_neg (by simp; omega), sel_neg (by simp; omega), sel_pos (by simp; omega)]
  rw [hd]
  change some (decide (-q ≤ 0 - Int.tdiv (4000 * L + s - 1) s)) = _
  congr 1
  refine decide_eq_decide.2 (Iff.trans ?_ hc)
  omega
theorem ready_un {L D H cl t : Int} {l : T.Span} (hc0 : 0 ≤ cl) (hcl : cl ≤ t) (hH : H ≤ t - cl) (ht : t ≤ 5000000000) :
    restore_ready (siteE L D H) [{ Off := Bool.true, Clear := cl, Reason := 0 : T.Cut }] [l] 0 t = obind (restore_changed (roadE L) l 1 (t - cl)) fun b => sel (!b) (some 20) (some 0) := by
  have e1 : w64 (t - cl) = t - cl := w64_small (by omega) (by omega)
  have e : restore_ready (siteE L D H) [{ Off := Bool.true, Clear := cl, Reason := 0 : T.Cut }] [l] 0 t = sel (decide (cl < 0)) (some 20) (sel (decide (cl > t)) (some 20) (sel (decide (w64 (t - cl) < H)) (some 20) (obind (restore_changed (roadE L) l 1 (w64 (t - cl))) fun b => sel (!b) (some 20) (some 0)))) := by kernel_rfl
  rw [e, e1, sel_neg (by simp; omega), sel_neg (by simp; omega), sel_neg (by simp; omega)]
theorem ready_early {L D H cl t : Int} {l : T.Span} (hc0 : 0 ≤ cl) (hc1 : cl ≤ 5000000000) (h0 : 0 ≤ t) (hH1 : 1 ≤ H) (hH : t - cl < H) (ht : t ≤ 5000000000) :
    restore_ready (siteE L D H) [{ Off := Bool.true, Clear := cl, Reason := 0 : T.Cut }] [l] 0 t = some 20 := by
  have e1 : w64 (t - cl) = t - cl := w64_small (by omega) (by omega)
  have e : restore_ready (siteE L D H) [{ Off := Bool.true, Clear := cl, Reason := 0 : T.Cut }] [l] 0 t = sel (decide (cl < 0)) (some 20) (sel (decide (cl > t)) (some 20) (sel (decide (w64 (t - cl) < H)) (some 20) (obind (restore_changed (roadE L) l 1 (w64 (t - cl))) fun b => sel (!b) (some 20) (some 0)))) := by kernel_rfl
  rw [e, e1, sel_neg (by simp; omega)]
  cases decide (cl > t)
  · rw [sel_f, sel_pos (by simp; omega)]
  · rfl
/-- when a zone is ready -/
def rdy (L H cl q t : Int) : Prop := H ≤ t - cl ∧ 4000 * L ≤ q * (t - cl)
instance (L H cl q t : Int) : Decidable (rdy L H cl q t) := inferInstanceAs (Decidable (_ ∧ _))
theorem ready_fwd {L D H n cl q q2 t : Int} (h : EasyB L D H n) (hc0 : 0 ≤ cl) (hc1 : cl ≤ 1000000) (hq : 1 ≤ q) (hq2 : q ≤ q2) (h0 : 0 ≤ t) (ht : t ≤ 5000000) :
    restore_ready (siteE L D H) [{ Off := Bool.true, Clear := cl, Reason := 0 : T.Cut }] [{ Low := q, High := q2 }] 0 t = some (if rdy L H cl q t then 0 else 20) := by
  obtain ⟨l1, l2, d1, d2, h1, h2, n1, n2⟩ := h
  by_cases hH : H ≤ t - cl
  · rw [ready_un hc0 (by omega) hH (by omega), changed_fwd l1 l2 hq hq2 (by omega) (by omega), obind_some]
    by_cases hx : 4000 * L ≤ q * (t - cl)
    · rw [if_pos ⟨hH, hx⟩, decide_eq_true hx]; rfl
    · rw [if_neg (fun e => hx e.2), decide_eq_false hx]; rfl
  · rw [ready_early hc0 (by omega) h0 h1 (by omega) (by omega), if_neg (fun e => hH e.1)]
theorem ready_back {L D H n cl q q2 t : Int} (h : EasyB L D H n) (hc0 : 0 ≤ cl) (hc1 : cl ≤ 1000000) (hq : 1 ≤ q) (hq2 : q ≤ q2) (h0 : 0 ≤ t) (ht : t ≤ 5000000) :
    restore_ready (siteE L D H) [{ Off := Bool.true, Clear := cl, Reason := 0 : T.Cut }] [{ Low := -q2, High := -q }] 0 t = some (if rdy L H cl q t then 0 else 20) := by
  obtain ⟨l1, l2, d1, d2, h1, h2, n1, n2⟩ := h
  by_cases hH : H ≤ t - cl
  · rw [ready_un hc0 (by omega) hH (by omega), changed_back l1 l2 hq hq2 (by omega) (by omega), obind_some]
    by_cases hx : 4000 * L ≤ q * (t - cl)
    · rw [if_pos ⟨hH, hx⟩, decide_eq_true hx]; rfl
    · rw [if_neg (fun e => hx e.2), decide_eq_false hx]; rfl
  · rw [ready_early hc0 (by omega) h0 h1 (by omega) (by omega), if_neg (fun e => hH e.1)]
end Go.Proofs.Ytlhknehkcflkgaa
