/- Networks of any shape: their check, their paths, the switch that is next, what closing it does. -/
import Derived.Test.YtlhknehkcflkgaaPlScene
import Derived.Test.YtlhknehkcflkgaaPlOthers
import Derived.Test.YtlhknehkcflkgaaPlRest
set_option autoImplicit false
set_option linter.unusedVariables false
set_option linter.unusedSimpArgs false
set_option maxRecDepth 100000
namespace Go.Proofs.Ytlhknehkcflkgaa
open Go Ab
structure FeedG (z : Nat) (f : T.Feeder) : Prop where
  s2 : f.Switches.length ≤ 8
  s : SwsOk f.Switches
  zl : f.Zones.length = z
  z4 : z ≤ 4
  z : ∀ i, i < f.Zones.length → 0 ≤ rd f.Zones i default ∧ rd f.Zones i default < (f.Switches.length : Int)
  d : ∀ i j, i < j → j < f.Zones.length → rd f.Zones i default ≠ rd f.Zones j default
  r1 : 1 ≤ f.Reply
  r2 : f.Reply ≤ 9
theorem FeedDrawn.good {z : Nat} {f : T.Feeder} (h : FeedDrawn z f) (h4 : z ≤ 4) : FeedG z f :=
  ⟨h.s2, fun i hi => by have g := h.s i hi; exact ⟨g.a0, g.a1, by have := g.s; omega, g.h0, g.h1, g.l⟩, h.zl, h4, h.z, h.d, h.r1, h.r2⟩
section
variable {zs : List Int} {sw : List T.Switch} {rp : Int}
theorem fz_loop (hz : ∀ i, i < zs.length → 0 ≤ rd zs i default ∧ rd zs i default < (sw.length : Int)) (hd : ∀ i j, i < j → j < zs.length → rd zs i default ≠ rd zs j default) (hl : zs.length ≤ 1000) (r1 : 1 ≤ rp) (r2 : rp ≤ 9) :
    ∀ (d i it : Nat) (taken : List Bool), i + d = zs.length → d < it → taken.length = sw.length → (∀ j, i ≤ j → j < zs.length → rd taken (rd zs j default).toNat default = false) →
    feeder_Check.j1 K it ((i : Int), (zs.length : Int), zs, taken, (), rp, sw) = some 0
  | 0, i, it + 1, taken, hi, hit, ht, hf => by
    rw [feeder_Check.j1, sel_df (by omega)]
    unfold feeder_Check.j2
    simp (disch := omega) only [sel_df]
  | d + 1, i, it + 1, taken, hi, hit, ht, hf => by
    have g := hz i (by omega)
    have e := hf i (Nat.le_refl _) (by omega)
    have ih := fz_loop hz hd hl r1 r2 d (i + 1) it (taken.set (rd zs i default).toNat true) (by omega) (by omega) (by simp; omega) (fun j h1 h2 => by
      have g2 := hz j h2
      have := hd i j (by omega) h2
      rw [rd_set_ne (by omega)]
      exact hf j (by omega) h2)
    push_cast at ih
    rw [feeder_Check.j1, Int.toNat_natCast]
    simp (disch := omega) only [sel_dt, sel_df, w64_small, e, sel_f]
    exact ih
theorem rz_in (hd : ∀ i j, i < j → j < zs.length → rd zs i default ≠ rd zs j default) (g : _) {i : Nat} (hi : i < zs.length) (hl : zs.length ≤ 1000) : ∀ (d k it : Nat), k + d = i → d < it → ref18_Check.j2 K g it ((k : Int), (i : Int), (), rp, zs, sw) = g ((i : Int) + 1, (), rp, zs, sw)
  | 0, k, it + 1, hk, hit => by
    rw [ref18_Check.j2, sel_df (by omega)]
    unfold ref18_Check.j3
    dsimp only
    rw [w64_small (by omega) (by omega)]
  | d + 1, k, it + 1, hk, hit => by
    have ih := rz_in hd g hi hl d (k + 1) it (by omega) (by omega)
    push_cast at ih
    have := hd k i (by omega) hi
    rw [ref18_Check.j2, Int.toNat_natCast, Int.toNat_natCast]
    simp (disch := first | omega | assumption) only [sel_dt, sel_df, w64_small, sel_eqf]
    exact ih
theorem rz_loop (hz : ∀ i, i < zs.length → 0 ≤ rd zs i default ∧ rd zs i default < (sw.length : Int)) (hd : ∀ i j, i < j → j < zs.length → rd zs i default ≠ rd zs j default) (hl : zs.length ≤ 900) (r1 : 1 ≤ rp) (r2 : rp ≤ 9) :
    ∀ (d i it : Nat), i + d = zs.length → d < it → ref18_Check.j1 K it ((i : Int), (), rp, zs, sw) = some 0
  | 0, i, it + 1, hi, hit => by
    rw [ref18_Check.j1, sel_df (by omega)]
    unfold ref18_Check.j4
    simp (disch := omega) only [sel_df]
  | d + 1, i, it + 1, hi, hit => by
    have hK := K_1000
    have g := hz i (by omega)
    have ih := rz_loop hz hd hl r1 r2 d (i + 1) it (by omega) (by omega)
    push_cast at ih
    have := rz_in (sw := sw) (rp := rp) hd (ref18_Check.j1 K it) (i := i) (by omega) (by omega) i 0 K (by omega) (by omega)
    rw [ref18_Check.j1, Int.toNat_natCast]
    simp (disch := omega) only [sel_dt, sel_df]
    exact this.trans ih
end
section
variable {z : Nat} {f : T.Feeder}
theorem fcheck_G (h : FeedG z f) : feeder_Check f = some 0 := by
  have hK := K_1000
  have s2 := h.s2; have zl := h.zl; have z4 := h.z4
  unfold feeder_Check feeder_Check.f
  rw [sel_df (by omega), sel_df (by omega)]
  refine (fcheck_loop h.s (by omega) f.Switches.length 0 K (by omega) (by omega)).trans ?_
  unfold feeder_Check.j3
  dsimp only
  rw [sel_eqt rfl, sel_dt (by omega), Int.toNat_natCast]
  exact fz_loop h.z h.d (by omega) h.r1 h.r2 f.Zones.length 0 K _ (by omega) (by omega) (by simp) (fun j _ hj => rd_repl (by have := h.z j hj; omega))
theorem rcheck_G (h : FeedG z f) : ref18_Check f = some 0 := by
  have hK := K_1000
  have s2 := h.s2; have zl := h.zl; have z4 := h.z4
  unfold ref18_Check ref18_Check.f
  rw [sel_df (by omega), sel_df (by omega)]
  refine (rcheck_loop h.s (by omega) f.Switches.length 0 K (by omega) (by omega)).trans ?_
  exact rz_loop h.z h.d (by omega) h.r1 h.r2 f.Zones.length 0 K (by omega) (by omega)
theorem path_G (h : FeedG z f) {s : Int} (h0 : 0 ≤ s) (h1 : s < (f.Switches.length : Int)) : feeder_Path f s = some (upL f.Switches 8 s) := by
  have s2 := h.s2
  unfold feeder_Path
  rw [fcheck_G h, obind_some, sel_nef rfl, sel_df (by omega), sel_df (by omega)]
  have := pathUp_L h.s 8 100 s [] (by omega) h1 (by omega)
  rw [this, List.nil_append]
theorem rpath_G (h : FeedG z f) {s : Int} (h0 : 0 ≤ s) (h1 : s < (f.Switches.length : Int)) : ref18_Path f s = some (upL f.Switches 8 s) := by
  have hK := K_1000
  have s2 := h.s2
  unfold ref18_Path ref18_Path.f
  rw [rcheck_G h, obind_some, sel_nef rfl, sel_df (by omega), sel_df (by omega)]
  have := refUp_L h.s (by omega) 8 K s [] (by omega) h1 (by omega) (by simp)
  rw [this, List.nil_append]
/-- does another zone that is off hang below, and nothing else hold it? -/
def powP (sw : List T.Switch) (c : List T.Cut) (zone a : Int) : Nat → List Int → Bool
  | _, [] => false
  | z, own :: r => (!((z : Int) == zone) && (rd c z default).Off && ((upL sw 8 own).contains a && !anyO sw a (upL sw 8 own))) || powP sw c zone a (z + 1) r
theorem powered_G (h : FeedG z f) {c : List T.Cut} {zone a : Int} : ∀ (zs : List Int) (k : Nat), (∀ x ∈ zs, 0 ≤ x ∧ x < (f.Switches.length : Int)) → k + zs.length ≤ c.length → powered c f zone a k zs = some (powP f.Switches c zone a k zs)
  | [], k, hz, hk => rfl
  | own :: r, k, hz, hk => by
    have g := hz own (by simp)
    have ih := powered_G h (c := c) (zone := zone) (a := a) r (k + 1) (fun x hx => hz x (by simp [hx])) (by simp at hk; omega)
    have hp := path_G h g.1 g.2
    have ho := anyOpen_O (sw := f.Switches) (a := a) (upL f.Switches 8 own) (upL_range h.s 8 own g.2)
    have hkl : k < c.length := by simp at hk; omega
    unfold powered powP
    rw [sel_dt (by omega), hp, obind_some, ho, obind_some, ih]
    generalize (upL f.Switches 8 own).contains a = x
    generalize anyO f.Switches a (upL f.Switches 8 own) = y
    generalize ((k : Int) == zone) = b
    generalize (rd c k default).Off = o
    cases b <;> cases o <;> cases x <;> cases y <;> simp [sel_t, sel_f]
theorem powP_not {sw : List T.Switch} {c : List T.Cut} {zone a : Int} : ∀ (zs : List Int) (k : Nat), powP sw c zone a k zs = false → ∀ i, i < zs.length → ((k + i : Nat) : Int) ≠ zone → (rd c (k + i) default).Off = true → a ∈ upL sw 8 (rd zs i default) → anyO sw a (upL sw 8 (rd zs i default)) = true
  | [], k, h, i, hi, _, _, _ => by simp at hi
  | own :: r, k, h, i, hi, hn, ho, hm => by
    unfold powP at h
    rw [Bool.or_eq_false_iff] at h
    obtain ⟨h1, h2⟩ := h
    cases i with
    | zero =>
      have e : rd (own :: r) 0 default = own := rfl
      rw [e] at hm ⊢
      have hn : ((k : Int) == zone) = false := by simpa using hn
      have ho : (rd c k default).Off = true := ho
      have hc : (upL sw 8 own).contains a = true := by simpa using hm
      rw [hn, ho, hc] at h1
      simpa using h1
    | succ i =>
      have e : rd (own :: r) (i + 1) default = rd r i default := rfl
      rw [e] at hm ⊢
      exact powP_not r (k + 1) h2 i (by simpa using hi) (by rw [show k + 1 + i = k + (i + 1) by omega]; exact hn) (by rw [show k + 1 + i = k + (i + 1) by omega]; exact ho) hm
def nextG (f : T.Feeder) (zone : Int) : Int := lastO f.Switches (upL f.Switches 8 (rd f.Zones zone.toNat default)) (rd f.Zones zone.toNat default)
theorem nextG_range (h : FeedG z f) {zone : Int} (h0 : 0 ≤ zone) (h1 : zone < (f.Zones.length : Int)) : 0 ≤ nextG f zone ∧ nextG f zone < (f.Switches.length : Int) := by
  have g := h.z zone.toNat (by omega)
  unfold nextG
  rcases lastO_mem (sw := f.Switches) (upL f.Switches 8 (rd f.Zones zone.toNat default)) (rd f.Zones zone.toNat default) with e | e
  · rw [e]; exact g
  · exact upL_range h.s 8 _ g.2 _ e
theorem next_G (h : FeedG z f) {c : List T.Cut} (hc : c.length = z) {zone : Int} (h0 : 0 ≤ zone) (h1 : zone < (f.Zones.length : Int)) : restore_Next c f zone = some (nextG f zone, powP f.Switches c zone (nextG f zone) 0 f.Zones) := by
  have g := h.z zone.toNat (by omega)
  have hcons : upL f.Switches 8 (rd f.Zones zone.toNat default) = rd f.Zones zone.toNat default :: upL f.Switches 7 (rd f.Switches (rd f.Zones zone.toNat default).toNat default).Above := by
    show (if _ then _ else _) = _
    rw [if_neg (by omega)]
  have zl := h.zl
  unfold restore_Next
  rw [sel_dt h0, sel_dt h1, path_G h g.1 g.2, obind_some, sel_dt (by rw [hcons]; simp), lastOpen_O _ _ (upL_range h.s 8 _ g.2), obind_some]
  have e0 : rd (upL f.Switches 8 (rd f.Zones zone.toNat default)) 0 default = rd f.Zones zone.toNat default := by rw [hcons]; rfl
  rw [e0]
  show obind (powered c f zone (nextG f zone) 0 f.Zones) _ = _
  rw [powered_G h f.Zones 0 (fun x hx => by
    obtain ⟨i, hi, rfl⟩ := List.getElem_of_mem hx
    have := h.z i hi
    simpa [rd, List.getD, hi] using this) (by omega), obind_some]
  rfl
theorem timely_G (hl : f.Switches.length ≤ 8) (t : Int) : ∀ (d i it : Nat), i + d = f.Switches.length → d < it → Okk (feeder_timely.j0 K it ((i : Int), (f.Switches.length : Int), f.Switches, t)) fun _ => True
  | 0, i, it + 1, hi, hit => by
    rw [feeder_timely.j0, sel_df (by omega)]
    exact .some trivial
  | d + 1, i, it + 1, hi, hit => by
    have ih := timely_G hl t d (i + 1) it (by omega) (by omega)
    push_cast at ih
    rw [feeder_timely.j0, Int.toNat_natCast]
    simp (disch := omega) only [sel_dt, w64_small]
    exact .seld (fun _ => .some trivial) (fun _ => ih)
/-- a switch has been closed -/
def shutG (f : T.Feeder) (s t : Int) : T.Feeder := { f with Switches := f.Switches.set s.toNat { Above := (rd f.Switches s.toNat default).Above, Since := t, Shown := 0, Closed := Bool.true, Late := Bool.false : T.Switch } }
theorem shutG_good (h : FeedG z f) {s t : Int} (h0 : 0 ≤ s) (h1 : s < (f.Switches.length : Int)) (t0 : 0 ≤ t) (t1 : t ≤ 1000) : FeedG z (shutG f s t) := by
  refine ⟨by show (List.set _ _ _).length ≤ 8; rw [List.length_set]; exact h.s2, fun i hi => ?_, h.zl, h.z4, fun i hi => ?_, h.d, h.r1, h.r2⟩
  · have hi : i < f.Switches.length := by
      have : (shutG f s t).Switches.length = f.Switches.length := by unfold shutG; simp
      omega
    unfold shutG
    dsimp only
    by_cases e : s.toNat = i
    · subst e
      rw [rd_set_eq hi]
      have g := h.s _ hi
      exact ⟨g.a1, g.a2, ⟨t0, t1⟩, by dsimp only; omega, by dsimp only; omega, rfl⟩
    · rw [rd_set_ne e]; exact h.s i hi
  · have : (shutG f s t).Switches.length = f.Switches.length := by unfold shutG; simp
    rw [this]
    exact h.z i hi
theorem fclose_G (h : FeedG z f) {s t : Int} (h0 : 0 ≤ s) (h1 : s < (f.Switches.length : Int)) (t0 : 0 ≤ t) (t1 : t ≤ 1000) : Okk (feeder_Close f s t) fun y => y.2 ≠ 0 ∨ (y.2 = 0 ∧ y.1 = shutG f s t) := by
  have hK := K_1000
  have s2 := h.s2; have zl := h.zl; have z4 := h.z4
  have g := h.s s.toNat (by omega)
  have a2 := g.a2
  have hcan : Okk (feeder_can f s t) fun _ => True := by
    unfold feeder_can feeder_can.f
    rw [fcheck_G h, obind_some, sel_nef rfl, sel_df (by omega), sel_df (by omega)]
    have : Okk (feeder_timely f t) fun _ => True := by
      unfold feeder_timely feeder_timely.f
      rw [sel_df (by omega), sel_df (by omega)]
      exact timely_G s2 t f.Switches.length 0 K (by omega) (by omega)
    exact this.bind fun b _ => .sel (fun _ => .some trivial) (fun _ => .some trivial)
  have hcl : feeder_clone f = some f := by
    unfold feeder_clone feeder_clone.f
    rw [sel_dt (by simp only [List.length_nil]; omega), sel_dt (by simp only [List.length_nil]; omega)]
    rfl
  unfold feeder_Close feeder_Close.f
  refine hcan.bind fun e _ => .sel (fun he => .some (.inl (by simpa using he))) (fun _ => ?_)
  rw [sel_dt (by omega), sel_dt (by omega), hcl]
  refine .sel (fun _ => .some (.inl (by dsimp only; omega))) (fun _ => ?_)
  refine .seld (fun ha => ?_) (fun ha => ?_)
  · rw [sel_dt (by omega), sel_dt (by omega)]
    refine .sel (fun _ => .some (.inl (by dsimp only; omega))) (fun _ => ?_)
    rw [obind_some, sel_dt (by omega), sel_dt (by omega)]
    exact .some (.inr ⟨rfl, rfl⟩)
  · rw [obind_some, sel_dt (by omega), sel_dt (by omega)]
    exact .some (.inr ⟨rfl, rfl⟩)
end
/-! what the law asks of a closing -/
def eq5 (a b : T.Switch) : Bool := a.Above == b.Above && (a.Since == b.Since && (a.Shown == b.Shown && (a.Closed == b.Closed && a.Late == b.Late)))
theorem eq5_refl (a : T.Switch) : eq5 a a = true := by simp [eq5]
def heldP (sw : List T.Switch) (p : List Int) : Bool := p.any fun s => (rd sw s.toNat default).Shown == -1
def freshP (sw sw0 : List T.Switch) (p : List Int) : Bool := p.any fun s => !eq5 (rd sw s.toNat default) (rd sw0 s.toNat default)
section
variable {fR : Int} {fZ : List Int} {sw sw0 : List T.Switch} {c0 c : List T.Cut} {zone : Int}
theorem closes_in (g : _) (t32 t31 : Int) (p : List Int) (hp : InR sw p) (h0 : sw0.length = sw.length) (hl : p.length ≤ 1000) : ∀ (d i it : Nat) (held fresh : Bool), i + d = p.length → d < it →
    law21_closes.j1 K g it ((i : Int), (p.length : Int), p, held, fresh, t32, t31, (), fR, fZ, sw, (), sw0, c0, c, zone) = law21_closes.j2 K g (held || heldP sw (p.drop i), fresh || freshP sw sw0 (p.drop i), t32, t31, (), fR, fZ, sw, (), sw0, c0, c, zone)
  | 0, i, it + 1, held, fresh, hi, hit => by
    rw [law21_closes.j1, sel_df (by omega), List.drop_eq_nil_of_le (by omega)]
    simp [heldP, freshP]
  | d + 1, i, it + 1, held, fresh, hi, hit => by
    have hx := hp _ (rd_mem (xs := p) (i := i) (d := default) (by omega))
    have ih := fun a b => closes_in g t32 t31 p hp h0 hl d (i + 1) it a b (by omega) (by omega)
    push_cast at ih
    have e1 : heldP sw (p.drop i) = (((rd sw (rd p i default).toNat default).Shown == -1) || heldP sw (p.drop (i + 1))) := by rw [rd_drop (by omega : i < p.length)]; rfl
    have e2 : freshP sw sw0 (p.drop i) = ((!eq5 (rd sw (rd p i default).toNat default) (rd sw0 (rd p i default).toNat default)) || freshP sw sw0 (p.drop (i + 1))) := by rw [rd_drop (by omega : i < p.length)]; rfl
    rw [law21_closes.j1, Int.toNat_natCast, e1, e2]
    generalize rd p i default = x at *
    simp (disch := omega) only [sel_dt, w64_small, ih]
    unfold eq5
    cases held <;> cases fresh <;> simp only [sel_t, sel_f, Bool.true_or, Bool.false_or]
theorem closes_loop (hf : FeedG c0.length { Switches := sw, Zones := fZ, Reply := fR }) (h0 : sw0.length = sw.length) (hc : c.length = c0.length) (hcc : ∀ i, i < c.length → (i : Int) ≠ zone → rd c i default = rd c0 i default)
    (H : ∀ i, i < c.length → (i : Int) ≠ zone → (rd c i default).Off = true → freshP sw sw0 (upL sw 8 (rd fZ i default)) = true → heldP sw (upL sw 8 (rd fZ i default)) = true) : ∀ (d i it : Nat), i + d = c.length → d < it →
    law21_closes.j0 K it ((i : Int), (c.length : Int), (), fR, fZ, sw, (), sw0, c0, c, zone) = some true
  | 0, i, it + 1, hi, hit => by
    rw [law21_closes.j0, sel_df (by omega)]
    rfl
  | d + 1, i, it + 1, hi, hit => by
    have hK := K_1000
    have ih := closes_loop hf h0 hc hcc H d (i + 1) it (by omega) (by omega)
    push_cast at ih
    have z4 := hf.z4
    have j3 : law21_closes.j3 K (law21_closes.j0 K it) ((i : Int), (c.length : Int), (), fR, fZ, sw, (), sw0, c0, c, zone) = some true := by
      unfold law21_closes.j3
      dsimp only
      rw [w64_small (by omega) (by omega)]
      exact ih
    rw [law21_closes.j0, Int.toNat_natCast]
    by_cases hz : (i : Int) = zone
    · rw [sel_dt (by omega), sel_nef hz, sel_eqt hz]
      exact j3
    · have hzl : i < fZ.length := by have : fZ.length = c0.length := hf.zl; omega
      have gz : 0 ≤ rd fZ i default ∧ rd fZ i default < (sw.length : Int) := hf.z i hzl
      have hp := rpath_G hf gz.1 gz.2
      have e := hcc i (by omega) hz
      rw [sel_dt (by omega), sel_net hz]
      simp (disch := first | omega | assumption) only [sel_dt, sel_eqf]
      rw [e]
      simp only [beq_self_eq_true, Bool.and_true, Bool.not_true, sel_f]
      cases ho : (rd c0 i default).Off
      · simp only [Bool.not_false, sel_t]
        exact j3
      · simp only [Bool.not_true, sel_f]
        rw [hp, obind_some]
        have hl := upL_len (sw := sw) 8 (rd fZ i default)
        have := closes_in (fR := fR) (fZ := fZ) (sw := sw) (sw0 := sw0) (c0 := c0) (c := c) (zone := zone) (law21_closes.j0 K it) (i : Int) (c.length : Int) (upL sw 8 (rd fZ i default)) (upL_range hf.s 8 _ gz.2) h0 (by omega) (upL sw 8 (rd fZ i default)).length 0 K false false (by omega) (by omega)
        refine this.trans ?_
        rw [List.drop_zero, Bool.false_or, Bool.false_or]
        have hH := H i (by omega) hz (by rw [e]; exact ho)
        unfold law21_closes.j2
        dsimp only
        cases hfr : freshP sw sw0 (upL sw 8 (rd fZ i default))
        · rw [sel_f]; exact j3
        · rw [sel_t, hH hfr, Bool.not_true, sel_f]; exact j3
end
theorem upL_set {sw : List T.Switch} {n : Nat} {x : T.Switch} (hx : x.Above = (rd sw n default).Above) (hn : n < sw.length) : ∀ (k : Nat) (s : Int), upL (sw.set n x) k s = upL sw k s
  | 0, s => rfl
  | k + 1, s => by
    unfold upL
    have e : (rd (sw.set n x) s.toNat default).Above = (rd sw s.toNat default).Above := by
      by_cases h : n = s.toNat
      · rw [← h, rd_set_eq hn, hx]
      · rw [rd_set_ne h]
    rw [e, upL_set hx hn k]
theorem closes_G {z : Nat} {x : T.law21_scene} {c' : List T.Cut} {s t zone : Int} (hf : FeedG z x.feeder) (h0 : 0 ≤ s) (h1 : s < (x.feeder.Switches.length : Int)) (t0 : 0 ≤ t) (t1 : t ≤ 1000) (hc0 : x.cuts.length = z) (hc : c'.length = x.cuts.length) (hcc : ∀ i, i < c'.length → (i : Int) ≠ zone → rd c' i default = rd x.cuts i default)
    (hp : powP x.feeder.Switches x.cuts zone s 0 x.feeder.Zones = false) : law21_closes x c' (shutG x.feeder s t) zone = some true := by
  have hK := K_1000
  have hg := shutG_good hf h0 h1 t0 t1
  have hl : (shutG x.feeder s t).Switches.length = x.feeder.Switches.length := by unfold shutG; simp
  have z4 := hf.z4
  subst hc0
  unfold law21_closes law21_closes.f
  rw [sel_nef (by omega), sel_nef (by omega)]
  refine closes_loop hg hl.symm hc hcc (fun i hi hz ho hfr => ?_) c'.length 0 K (by omega) (by omega)
  have hs : (x.feeder.Switches.set s.toNat { Above := (rd x.feeder.Switches s.toNat default).Above, Since := t, Shown := 0, Closed := Bool.true, Late := Bool.false : T.Switch }) = (shutG x.feeder s t).Switches := rfl
  have eu : ∀ own, upL (shutG x.feeder s t).Switches 8 own = upL x.feeder.Switches 8 own := fun own => upL_set (sw := x.feeder.Switches) (n := s.toNat) (x := { Above := (rd x.feeder.Switches s.toNat default).Above, Since := t, Shown := 0, Closed := Bool.true, Late := Bool.false : T.Switch }) rfl (by omega) 8 own
  rw [hs, eu] at hfr ⊢
  have hzl := hf.zl
  have hin : s ∈ upL x.feeder.Switches 8 (rd x.feeder.Zones i default) := by
    unfold freshP at hfr
    obtain ⟨q, hq, hq2⟩ := List.any_eq_true.1 hfr
    have gq := upL_range hf.s 8 _ (hf.z i (by omega)).2 q hq
    by_cases e : s.toNat = q.toNat
    · have : s = q := by omega
      rw [this]; exact hq
    · have : rd (shutG x.feeder s t).Switches q.toNat default = rd x.feeder.Switches q.toNat default := by unfold shutG; exact rd_set_ne e
      rw [this, eq5_refl] at hq2
      cases hq2
  have ha := powP_not x.feeder.Zones 0 hp i (by omega) (by simpa using hz) (by rw [Nat.zero_add, ← hcc i hi hz]; exact ho) hin
  unfold anyO at ha
  obtain ⟨q, hq, hq2⟩ := List.any_eq_true.1 ha
  have gq := upL_range hf.s 8 _ (hf.z i (by omega)).2 q hq
  rw [Bool.and_eq_true] at hq2
  have hne : q ≠ s := by simpa using hq2.1
  refine List.any_eq_true.2 ⟨q, hq, ?_⟩
  have : rd (shutG x.feeder s t).Switches q.toNat default = rd x.feeder.Switches q.toNat default := by unfold shutG; exact rd_set_ne (by omega)
  rw [this]
  exact hq2.2
end Go.Proofs.Ytlhknehkcflkgaa
